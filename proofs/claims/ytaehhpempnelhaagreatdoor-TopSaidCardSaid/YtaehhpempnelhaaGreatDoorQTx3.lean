/-
  Contracts of functions of the program, each out of its condition or by a walk, and plain lemmas.
-/
import Derived.Shelf.Strings.Builder1
import Derived.Shelf.Strings.Builder2
import Derived.Shelf.Strings.OnBuilder
import Derived.Shelf.Strings.BuilderF
import Derived.Shelf.Strings.BuilderK
import Derived.Shelf.Strings.Builder2Cap
import Derived.Shelf.Strconv.Itoa0
import Derived.Shelf.Strconv.Itoa1
import Derived.Shelf.LaysM
import Derived.Shelf.Strconv.Itoa2
import Derived.Shelf.Strconv.Itoa3
import Derived.Shelf.Strconv.Itoa4
import Derived.Test.YtaehhpempnelhaaGreatDoorQYu
import Derived.Laws.ResultCell
namespace Go.Proofs
open Go.Shelf
def Tryz.lays156_ren:Go.Shelf.Ren:=⟨fun|156=>56|165=>103|166=>104|169=>105|240=>130|241=>131|276=>169|277=>170|n=>n,fun|31=>128|9=>9|3=>3|4=>4|0=>0|20=>20|72=>194|76=>198|70=>192|37=>22|75=>197|127=>242|164=>310|5=>5|80=>186|n=>n,fun|n=>n⟩
theorem Tryz.lays156:Go.Proofs.Lays.n156 Tryz.prog Tryz.lays156_ren:= {
 mixed:=by kernel_rfl
 f156:=Tryz.func56.trans (congrArg some (by kernel_rfl))
 f165:=Tryz.func103.trans (congrArg some (by kernel_rfl))
 f166:=Tryz.func104.trans (congrArg some (by kernel_rfl))
 f169:=Tryz.func105.trans (congrArg some (by kernel_rfl))
 f240:=Tryz.func130.trans (congrArg some (by kernel_rfl))
 f241:=Tryz.func131.trans (congrArg some (by kernel_rfl))
 f276:=Tryz.func169.trans (congrArg some (by kernel_rfl))
 f277:=Tryz.func170.trans (congrArg some (by kernel_rfl))
 t0:=Tryz.underlying0
 a0:=Tryz.isAgg0
 z0:=Tryz.sizeOf0
 v0:=Tryz.zeroValue0
 t3:=Tryz.underlying3
 a3:=Tryz.isAgg3
 z3:=Tryz.sizeOf3
 v3:=Tryz.zeroValue3
 t4:=Tryz.underlying4
 a4:=Tryz.isAgg4
 z4:=Tryz.sizeOf4
 v4:=Tryz.zeroValue4
 t9:=Tryz.underlying9
 a9:=Tryz.isAgg9
 z9:=Tryz.sizeOf9
 v9:=Tryz.zeroValue9
 t20:=Tryz.underlying20
 a20:=Tryz.isAgg20
 z20:=Tryz.sizeOf20
 v20:=Tryz.zeroValue20
 t31:=Tryz.underlying128
 a31:=Tryz.isAgg128
 z31:=Tryz.sizeOf128
 v31:=Tryz.zeroValue128
 t37:=Tryz.underlying22
 a37:=Tryz.isAgg22
 z37:=Tryz.sizeOf22
 v37:=Tryz.zeroValue22
 t70:=Tryz.underlying192
 a70:=Tryz.isAgg192
 z70:=Tryz.sizeOf192
 v70:=Tryz.zeroValue192
 t72:=Tryz.underlying194
 a72:=Tryz.isAgg194
 z72:=Tryz.sizeOf194
 v72:=Tryz.zeroValue194
 t75:=Tryz.underlying197
 a75:=Tryz.isAgg197
 z75:=Tryz.sizeOf197
 v75:=Tryz.zeroValue197
 t76:=Tryz.underlying198
 a76:=Tryz.isAgg198
 z76:=Tryz.sizeOf198
 v76:=Tryz.zeroValue198
 t127:=Tryz.underlying242
 a127:=Tryz.isAgg242
 z127:=Tryz.sizeOf242
 v127:=Tryz.zeroValue242
 t164:=Tryz.underlying310
 a164:=Tryz.isAgg310
 z164:=Tryz.sizeOf310
 v164:=Tryz.zeroValue310}
theorem Tryz.Builder_Extra_156:Builder.Extra Tryz.prog Tryz.lays156_ren:= {
 sizeBuilder:=by kernel_rfl
 liesBuilder:=by kernel_rfl
 t5:=Tryz.underlying5
 a5:=Tryz.isAgg5
 z5:=Tryz.sizeOf5
 v5:=Tryz.zeroValue5
 infoByte:=by kernel_rfl
 cellsByte:=by kernel_rfl
 sizeByte:=by kernel_rfl
 neB5:=by decide}
open Go.RowKit in
theorem Tryz.strings_Join_none(a:Option Addr)(c:Nat)(sep:ByteArray)(w:World):
  Calls Tryz.prog 56 #[.slice a 0 c,.string sep] w fun e w'=>e=.returned (.string ⟨#[]⟩)/\w'=w:=Any.strings_Join_none Tryz.lays156 Tryz.Builder_Extra_156 a c sep w
open Go.RowKit in
theorem Tryz.strings_Join(bk o c:Nat)(xs:List ByteArray)(sep:ByteArray)(w:World)(hcells:∀(j:Nat) x,xs[j]?=some x->w.cell? ⟨bk,o+j,none⟩=some (.string x))(hbk:bk<w.heap.size)(hN:xs.length<=140737488355328)(hcap:xs.length<=c)(hlen:(Lib.join (xs.map (·.data.toList)) sep.data.toList).length<=140737488355328):
  Calls Tryz.prog 56 #[.slice (some ⟨bk,o,none⟩) xs.length c,.string sep] w fun e w'=>e=.returned (.string ⟨(Lib.join (xs.map (·.data.toList)) sep.data.toList).toArray⟩)/\Below w.heap.size w w':=Any.strings_Join Tryz.lays156 Tryz.Builder_Extra_156 bk o c xs sep w hcells hbk hN hcap hlen
def Tryz.laysM173_ren:Go.Shelf.Ren:=⟨fun|173=>101|246=>125|283=>163|284=>164|285=>165|286=>166|129=>65|317=>211|318=>212|319=>213|320=>214|337=>239|338=>240|n=>n,fun|2=>2|3=>3|9=>9|4=>4|171=>303|0=>0|53=>68|37=>22|5=>5|173=>305|212=>359|51=>24|20=>20|213=>360|46=>98|232=>391|233=>392|n=>n,fun|17=>2|18=>6|19=>7|n=>n⟩
theorem Tryz.laysM173:Go.Proofs.LaysM.n173 Tryz.prog Tryz.laysM173_ren:= {
 mixed:=by kernel_rfl
 f129:=Tryz.func65.trans (congrArg some (by kernel_rfl))
 f173:=Tryz.func101.trans (congrArg some (by kernel_rfl))
 f246:=Tryz.func125.trans (congrArg some (by kernel_rfl))
 f283:=Tryz.func163.trans (congrArg some (by kernel_rfl))
 f284:=Tryz.func164.trans (congrArg some (by kernel_rfl))
 f285:=Tryz.func165.trans (congrArg some (by kernel_rfl))
 f286:=Tryz.func166.trans (congrArg some (by kernel_rfl))
 f317:=Tryz.func211.trans (congrArg some (by kernel_rfl))
 f318:=Tryz.func212.trans (congrArg some (by kernel_rfl))
 f319:=Tryz.func213.trans (congrArg some (by kernel_rfl))
 f320:=Tryz.func214.trans (congrArg some (by kernel_rfl))
 f337:=Tryz.func239.trans (congrArg some (by kernel_rfl))
 f338:=Tryz.func240.trans (congrArg some (by kernel_rfl))
 t0:=Tryz.underlying0
 a0:=Tryz.isAgg0
 z0:=Tryz.sizeOf0
 v0:=Tryz.zeroValue0
 t2:=Tryz.underlying2
 a2:=Tryz.isAgg2
 z2:=Tryz.sizeOf2
 v2:=Tryz.zeroValue2
 t3:=Tryz.underlying3
 a3:=Tryz.isAgg3
 z3:=Tryz.sizeOf3
 v3:=Tryz.zeroValue3
 t4:=Tryz.underlying4
 a4:=Tryz.isAgg4
 z4:=Tryz.sizeOf4
 v4:=Tryz.zeroValue4
 t5:=Tryz.underlying5
 a5:=Tryz.isAgg5
 z5:=Tryz.sizeOf5
 v5:=Tryz.zeroValue5
 t9:=Tryz.underlying9
 a9:=Tryz.isAgg9
 z9:=Tryz.sizeOf9
 v9:=Tryz.zeroValue9
 t20:=Tryz.underlying20
 a20:=Tryz.isAgg20
 z20:=Tryz.sizeOf20
 v20:=Tryz.zeroValue20
 t37:=Tryz.underlying22
 a37:=Tryz.isAgg22
 z37:=Tryz.sizeOf22
 v37:=Tryz.zeroValue22
 t46:=Tryz.underlying98
 a46:=Tryz.isAgg98
 z46:=Tryz.sizeOf98
 v46:=Tryz.zeroValue98
 t51:=Tryz.underlying24
 a51:=Tryz.isAgg24
 z51:=Tryz.sizeOf24
 v51:=Tryz.zeroValue24
 t53:=Tryz.underlying68
 a53:=Tryz.isAgg68
 z53:=Tryz.sizeOf68
 v53:=Tryz.zeroValue68
 t171:=Tryz.underlying303
 a171:=Tryz.isAgg303
 z171:=Tryz.sizeOf303
 v171:=Tryz.zeroValue303
 t173:=Tryz.underlying305
 a173:=Tryz.isAgg305
 z173:=Tryz.sizeOf305
 v173:=Tryz.zeroValue305
 t212:=Tryz.underlying359
 a212:=Tryz.isAgg359
 z212:=Tryz.sizeOf359
 v212:=Tryz.zeroValue359
 t213:=Tryz.underlying360
 a213:=Tryz.isAgg360
 z213:=Tryz.sizeOf360
 t232:=Tryz.underlying391
 a232:=Tryz.isAgg391
 z232:=Tryz.sizeOf391
 v232:=Tryz.zeroValue391
 t233:=Tryz.underlying392
 a233:=Tryz.isAgg392
 z233:=Tryz.sizeOf392
 v233:=Tryz.zeroValue392
 g17:=by kernel_rfl
 g18:=by kernel_rfl
 g19:=by kernel_rfl
 i0:=by kernel_rfl
 i2:=by kernel_rfl
 i3:=by kernel_rfl
 i4:=by kernel_rfl
 i5:=by kernel_rfl
 i9:=by kernel_rfl
 i20:=by kernel_rfl
 i37:=by kernel_rfl
 i46:=by kernel_rfl
 i51:=by kernel_rfl
 i53:=by kernel_rfl
 i171:=by kernel_rfl
 i173:=by kernel_rfl
 i212:=by kernel_rfl
 i232:=by kernel_rfl
 i233:=by kernel_rfl
 m17:=by kernel_rfl
 m18:=by kernel_rfl
 m19:=by kernel_rfl}
open Go.RowKit Go.Sort Go.Lib in
theorem Tryz.strconv_FormatInt_10(n:Int)(h0: -9223372036854775808<=n)(h1:n<=9223372036854775807)(w:World)(htab:Lib.TabIs Tryz.prog w "internal/strconv.uint64pow10" .u64 Lib.pow10Tab):
  Calls Tryz.prog 101 #[.int .i64 n,.int .i64 10] w fun e w'=>e=.returned (.string ⟨(Lib.itoa n).toArray⟩)/\∃k os,w'=grow (w.drewN k) os:=Any.strconv_FormatInt_10 Tryz.laysM173 n h0 h1 w htab
end Go.Proofs
set_option maxRecDepth 100000
namespace Go.Vc
open Go Go.Proofs Go.Plain Go.RowKit Tryz
open Go.Lib (decDigits nDigits)
theorem ahl:zR prog Sz=some 2:=by kernel_rfl
theorem agd:prog.globalNamed Sz=some 2:=by kernel_rfl
theorem pow_eq:aiI=Lib.pow10Tab:=by decide+kernel
theorem aAv{w:World}(h:KW prog w):Lib.TabIs prog w "internal/strconv.uint64pow10" .u64 Lib.pow10Tab:=by
 obtain⟨t,fz,e⟩:=h.2 _ (.head _) _ ahl;unfold Lib.TabIs World.var?;have e2:prog.globalNamed "internal/strconv.uint64pow10" =some 2:=agd;rw[e2];simp only[Option.bind_some,e,pow_eq]
abbrev amu:FuncId:=101
theorem Rw(n:Int)(h0:0<=n)(h1:n<9223372036854775808):PC prog amu [(I64,.int n),(I64,.int 10)] [(.str,.str (gI n))]:=by
 refine PC.qX (by decide) ⟨⟨_,func101,by kernel_rfl,by kernel_rfl⟩,fun w N vs aX hrd=>?_⟩;obtain⟨v,r,rfl,⟨us,hu,rfl⟩,v2,r2,rfl,⟨Jl,hu2,rfl⟩,hr⟩:=hrd;simp only[fI]at hr;subst hr;simp only[Rd]at hu hu2;subst hu hu2;have hc:=Tryz.strconv_FormatInt_10 n (by omega) (by omega) w (aAv aX);have e:Lib.itoa n=gI n:=by unfold Lib.itoa gI;rw[zq (by omega)]
 rw[e]at hc;refine hc.mono fun e w' ⟨he,k,os,hb⟩=>⟨_,he,⟨[.string ⟨(gI n).toArray⟩],⟨_,_,rfl,⟨_,rfl,rfl⟩,rfl⟩,?_⟩,?_⟩
 .simp
 rw[hb];exact⟨rfl,rfl,rfl,by show w.heap.size<=(w.heap++os).size;rw[Array.size_append];omega,fun j hj=>Sort.heap_grow_old (w.drewN k) os hj⟩
theorem GQ(n:Int)(h0:0<=n)(h1:n<9223372036854775808):PC prog YE [(I64,.int n)] [(.str,.str (gI n))]:=by
 apply aml rfl;simp only[Yl,aJ,aG];exact⟨_,Rw n h0 h1,rfl⟩
theorem atE(n:Int)(h0:0<=n)(h1:n<65536):PC prog Yc [(.int .u16,.int n)] [(.str,.str (gI n))]:=by
 apply al9 rfl;simp only[XU,aJ,aG,Kq];have e:(n+9223372036854775808)%18446744073709551616-9223372036854775808=n:=by omega
 first|rw[e]|skip
 exact⟨_,Rw n h0 (by omega),rfl⟩
theorem adE(n:Int)(h0:0<=n)(h1:n<4294967296):PC prog Yb [(.int .u32,.int n)] [(.str,.str (gI n))]:=by
 apply al8 rfl;simp only[XT,aJ,aG,Kq];have e:(n+9223372036854775808)%18446744073709551616-9223372036854775808=n:=by omega
 first|rw[e]|skip
 exact⟨_,Rw n h0 (by omega),rfl⟩
theorem afr(s:List UInt8)(hs:s.length<=1000000):PC prog acG [(aV,.ls (ofBytes s))] [(.str,.str (qs s))]:=by
 apply ao8 rfl;simp only[aaP,aJ,aG,Er];exact⟨_,ahu s hs,rfl⟩
theorem Uy:∀ws:List (List UInt8),Lib.join ws [32]=jC ws
 | []=>rfl
 | [w]=>by rw[Lib.join_one];rfl
 |w::v::r=>by
  have ih:=Uy (v::r);rw[Lib.join_cons]at ih |-;rw[show jC (w::v::r)=w++32::jC (v::r)from rfl,<-ih];simp[Lib.joinTail]
abbrev aqn:FuncId:=56
theorem ay4(ws:List (List UInt8))(h1:ws.length<=1000000000)(h2:(jC ws).length<=140737488355328):PC prog aqn [(.sl .str,.ls (ws.map .str)),(.str,.str [32])] [(.str,.str (jC ws))]:=by
 refine PC.qX (by decide) ⟨⟨_,func56,by kernel_rfl,by kernel_rfl⟩,fun w N vs aX hrd=>?_⟩;obtain⟨v,r,rfl,⟨us,hu,rfl⟩,v2,r2,rfl,⟨Jl,hu2,rfl⟩,hr⟩:=hrd;simp only[fI]at hr;subst hr;simp only[Rd,C.lF,bJ]at hu hu2;subst hu2;obtain⟨a,cap,rfl,hcap,hmx,hrow⟩:=hu;have fin:∀w',Below w.heap.size w w'->∀e:Ending,e=.returned (.string ⟨(jC ws).toArray⟩)->∃v,e=.returned v/\PN w' (fun b=>N b\/w.heap.size<=b) [(.str,.str (jC ws))] v/\Below w.heap.size w w':=fun w' hb e he=>⟨_,he,⟨[.string ⟨(jC ws).toArray⟩],⟨_,_,rfl,⟨_,rfl,rfl⟩,rfl⟩,by simp⟩,hb⟩;by_cases hw:ws=[]
 .subst hw;refine(Tryz.strings_Join_none a cap ⟨#[32]⟩ w).mono fun e w' ⟨he,hb⟩=>?_;rw[hb];exact fin w ⟨rfl,rfl,rfl,aS _,fun _ _=>rfl⟩ e he
 obtain ⟨b,off,rfl,hN,hlt,hat⟩:=hrow (by simpa using hw);have hc:=Tryz.strings_Join b off cap (ws.map fun x=>⟨x.toArray⟩) ⟨#[32]⟩ w (fun j x hx=>?_) hlt (by rw[bJ];omega) (by rw[bJ];exact hcap) ?_
 .rw[bJ]at hc;have e:(ws.map fun x=>(⟨x.toArray⟩:ByteArray)).map (·.data.toList)=ws:=by rw[vW];exact List.map_id'' (fun _=>rfl) ws
  rw[e]at hc;refine hc.mono fun e w' ⟨he,hb⟩=>fin w' hb e ?_;rw[he,show(⟨#[32]⟩:ByteArray).data.toList=[32]from rfl,Uy]
 .rw[ow]at hx;obtain⟨y,hy,rfl⟩:=Aj.1 hx;obtain⟨us,hl,hcs,hr⟩:=hat j (.str y) (by rw[ow,hy];rfl);change us=[.string ⟨y.toArray⟩]at hr
  subst hr;have h3:=hcs 0 (.string ⟨y.toArray⟩) rfl;have e3:off+j*Sh.size .str+0=off+j:=by simp[Sh.size]
  rw[e3]at h3;exact h3
 have e:(ws.map fun x=>(⟨x.toArray⟩:ByteArray)).map (·.data.toList)=ws:=by rw[vW];exact List.map_id'' (fun _=>rfl) ws
 rw[e,show(⟨#[32]⟩:ByteArray).data.toList=[32]from rfl,Uy];exact h2
end Go.Vc
namespace Go.Vc
open Go Go.Proofs Go.Plain Tryz
open Go.Lib (decDigits nDigits)
end Go.Vc
namespace Go.Vc
open Go Go.Proofs Go.Plain Tryz
open Go.Lib (decDigits nDigits)
abbrev eZ:=List (List UInt8)
def iter(f:Pl->eZ->Option (Pl×eZ)):Nat->Pl->eZ->Option Pl
 |0,p,ws=>if ws=[]then some p else none
 |k+1,p,ws=>if ws=[]then some p else match f p ws with|none=>none|some x=>iter f k x.1 x.2
theorem agJ(f:Pl->eZ->Option (Pl×eZ))(k:Nat)(p:Pl):iter f k p []=some p:=by cases k<;>rfl
theorem afz{f:Pl->eZ->Option (Pl×eZ)}{k:Nat}{p q:Pl}{ws r:eZ}(h:ws≠[])(hf:f p ws=some (q,r)):iter f (k+1) p ws=iter f k q r:=by rw[iter,zq h,hf]
theorem awC{f:Pl->eZ->Option (Pl×eZ)}{k:Nat}{p:Pl}{ws:eZ}(h:ws≠[])(hf:f p ws=none):iter f (k+1) p ws=none:=by rw[iter,zq h,hf]
def Runs(f:Pl->eZ->Option (Pl×eZ))(p:Pl)(ws:eZ)(q:Pl)(r:eZ):Prop:=∃n,r.length+n<=ws.length/\∀k,iter f (n+k) p ws=iter f k q r
theorem Runs.refl(f:Pl->eZ->Option (Pl×eZ))(p:Pl)(ws:eZ):Runs f p ws p ws:=⟨0,by omega,fun k=>by rw[kD]⟩
theorem Runs.trans{f:Pl->eZ->Option (Pl×eZ)}{p q s:Pl}{ws r t:eZ}(h:Runs f p ws q r)(g:Runs f q r s t):Runs f p ws s t:=by
 obtain⟨n,h1,h2⟩:=h;obtain⟨m,g1,g2⟩:=g;exact⟨n+m,by omega,fun k=>by rw[su,h2,g2]⟩
theorem Runs.step{f:Pl->eZ->Option (Pl×eZ)}{p q:Pl}{w:List UInt8}{ws r:eZ}(hf:f p (w::ws)=some (q,r))(hl:r.length<=ws.length):Runs f p (w::ws) q r:=
 ⟨1,by simp;omega,fun k=>by rw[Cm];exact afz (by simp) hf⟩
structure Good (f:Pl->eZ->Option (Pl×eZ)):Prop where
 marker:∀p (b:Bool) r,f p (lZ::(if b then yO else yu)::r)=some ({p with sm:=true,m:=b},r)
 type:∀p (n:Int) r,0<=n->n<=255->f p (mq::gI n::r)=some ({p with st:=true,ty:=n},r)
 seq:∀p (n:Int) r,0<=n->n<65536->f p (mH::gI n::r)=some ({p with sq:=true,seq:=n},r)
 time:∀p (n:Int) r,0<=n->n<4294967296->f p (mD::gI n::r)=some ({p with dY:=true,time:=n},r)
 bZ:∀p (n:Int) r,0<=n->n<4294967296->f p (mE::gI n::r)=some ({p with ss:=true,bZ:=n},r)
 map:∀p (a b:Int) r,0<=a->a<=255->0<=b->b<=255->f p (kC::gI a::gI b::r)=some ({p with maps:=p.maps++ [⟨a,b⟩]},r)
 jf:∀p (a:Int) d r,0<=a->a<=255->f p (iV::gI a::qs d::r)=some ({p with jf:=p.jf++ [⟨a,d⟩]},r)
 drop:∀p (a:Int) r,0<=a->a<=255->f p (j6::gI a::r)=some ({p with jg:=p.jg++ [a]},r)
 add:∀p (a:Int) d r,0<=a->a<=255->f p (iW::gI a::qs d::r)=some ({p with jh:=p.jh++ [⟨a,d⟩]},r)
 akn:∀p r,f p (mg::r)=some ({p with np:=true},r)
section
variable{f:Pl->eZ->Option (Pl×eZ)}(G:Good f)
include G
theorem afc:∀(l pre:List Mp) (q:Pl) (r:eZ),q.maps=pre->(∀m∈l,1<=m.fr/\m.fr<=255/\1<=m.to/\m.to<=255)->Runs f q (rJ l++r) {q with maps:=pre++l} r
 | [],pre,q,r,h,_=>by
  subst h;rw[lV];exact Runs.refl f q r
 |m::l,pre,q,r,h,hm=>by
  subst h;obtain⟨m1,m2,m3,m4⟩:=hm m (by simp<;>omega);have ih:=afc l (q.maps++ [m]) {q with maps:=q.maps++ [m]} r rfl (fun m hm2=>hm m (by simp[hm2]));rw[gJ]at ih;refine Runs.trans ?_ ih;rw[show rJ (m::l)++r=kC::gI m.fr::gI m.to::(rJ l++r)from rfl];exact Runs.step (G.map q m.fr m.to _ (by omega) m2 (by omega) m4) (by simp<;>omega)
theorem afb:∀(l pre:List El) (q:Pl) (r:eZ),q.jf=pre->(∀m∈l,1<=m.id/\m.id<=255)->Runs f q (nk iV l++r) {q with jf:=pre++l} r
 | [],pre,q,r,h,_=>by
  subst h;rw[lV];exact Runs.refl f q r
 |m::l,pre,q,r,h,hm=>by
  subst h;obtain⟨m1,m2⟩:=hm m (by simp<;>omega);have ih:=afb l (q.jf++ [m]) {q with jf:=q.jf++ [m]} r rfl (fun m hm2=>hm m (by simp[hm2]));rw[gJ]at ih;refine Runs.trans ?_ ih;rw[show nk iV (m::l)++r=iV::gI m.id::qs m.data::(nk iV l++r)from rfl];exact Runs.step (G.jf q m.id m.data _ (by omega) m2) (by simp<;>omega)
theorem afd:∀(l pre:List El) (q:Pl) (r:eZ),q.jh=pre->(∀m∈l,1<=m.id/\m.id<=255)->Runs f q (nk iW l++r) {q with jh:=pre++l} r
 | [],pre,q,r,h,_=>by
  subst h;rw[lV];exact Runs.refl f q r
 |m::l,pre,q,r,h,hm=>by
  subst h;obtain⟨m1,m2⟩:=hm m (by simp<;>omega);have ih:=afd l (q.jh++ [m]) {q with jh:=q.jh++ [m]} r rfl (fun m hm2=>hm m (by simp[hm2]));rw[gJ]at ih;refine Runs.trans ?_ ih;rw[show nk iW (m::l)++r=iW::gI m.id::qs m.data::(nk iW l++r)from rfl];exact Runs.step (G.add q m.id m.data _ (by omega) m2) (by simp<;>omega)
theorem aem:∀(l pre:List Int) (q:Pl) (r:eZ),q.jg=pre->(∀m∈l,1<=m/\m<=255)->Runs f q (rM l++r) {q with jg:=pre++l} r
 | [],pre,q,r,h,_=>by
  subst h;rw[lV];exact Runs.refl f q r
 |m::l,pre,q,r,h,hm=>by
  subst h;obtain⟨m1,m2⟩:=hm m (by simp<;>omega);have ih:=aem l (q.jg++ [m]) {q with jg:=q.jg++ [m]} r rfl (fun m hm2=>hm m (by simp[hm2]));rw[gJ]at ih;refine Runs.trans ?_ ih;rw[show rM (m::l)++r=j6::gI m::(rM l++r)from rfl];exact Runs.step (G.drop q m _ (by omega) m2) (by simp<;>omega)
theorem av2(p:Pl)(hp:fM p)(hn:fO p):Runs f Pl.zero (toks p) p []:=by
 obtain⟨⟨f1,f2,f3,f4,f5,t0,t1⟩,r1,r2,r3,r4,r5,_⟩:=hp;obtain⟨n1,n2,n3,n4,n5,n6⟩:=hn;have hm:∀m∈p.maps,1<=m.fr/\m.fr<=255/\1<=m.to/\m.to<=255:=fun m hm=>by
  have a1:=tC r1 m.fr (gP.2 ⟨m,hm,rfl⟩);have a2:=tC r2 m.to (gP.2 ⟨m,hm,rfl⟩);exact⟨a1.1,a1.2,a2.1,a2.2⟩
 have ho:∀m∈p.jf,1<=m.id/\m.id<=255:=fun m hm=>⟨(zO r4 m hm).1,(zO r4 m hm).2.1⟩;have ha:∀m∈p.jh,1<=m.id/\m.id<=255:=fun m hm=>⟨(zO r5 m hm).1,(zO r5 m hm).2.1⟩;have hd:=tC r3;obtain⟨sm,m,st,ty,sq,seq,dY,time,ss,bZ,maps,jf,jg,jh,np⟩:=p;simp only at*;have s1:∀r,Runs f Pl.zero (tk1 ⟨sm,m,st,ty,sq,seq,dY,time,ss,bZ,maps,jf,jg,jh,np⟩++r) ⟨sm,m,false,0,false,0,false,0,false,0,[],[],[],[],false⟩ r:=by
  intro r;unfold tk1;cases sm with
  |true=>exact Runs.step (G.marker Pl.zero m r) (by simp<;>omega)
  |false=>
   obtain rfl:m=false:=by simpa using f1
   exact Runs.refl _ _ _
 have s2:∀r,Runs f ⟨sm,m,false,0,false,0,false,0,false,0,[],[],[],[],false⟩ (tk2 ⟨sm,m,st,ty,sq,seq,dY,time,ss,bZ,maps,jf,jg,jh,np⟩++r) ⟨sm,m,st,ty,false,0,false,0,false,0,[],[],[],[],false⟩ r:=by
  intro r;unfold tk2;cases st with
  |true=>exact Runs.step (G.type _ ty r t0 (by omega)) (by simp<;>omega)
  |false=>
   obtain rfl:ty=0:=by simpa using f2
   exact Runs.refl _ _ _
 have s3:∀r,Runs f ⟨sm,m,st,ty,false,0,false,0,false,0,[],[],[],[],false⟩ (tk3 ⟨sm,m,st,ty,sq,seq,dY,time,ss,bZ,maps,jf,jg,jh,np⟩++r) ⟨sm,m,st,ty,sq,seq,false,0,false,0,[],[],[],[],false⟩ r:=by
  intro r;unfold tk3;cases sq with
  |true=>exact Runs.step (G.seq _ seq r n1 n2) (by simp<;>omega)
  |false=>
   obtain rfl:seq=0:=by simpa using f3
   exact Runs.refl _ _ _
 have s4:∀r,Runs f ⟨sm,m,st,ty,sq,seq,false,0,false,0,[],[],[],[],false⟩ (tk4 ⟨sm,m,st,ty,sq,seq,dY,time,ss,bZ,maps,jf,jg,jh,np⟩++r) ⟨sm,m,st,ty,sq,seq,dY,time,false,0,[],[],[],[],false⟩ r:=by
  intro r;unfold tk4;cases dY with
  |true=>exact Runs.step (G.time _ time r n3 n4) (by simp<;>omega)
  |false=>
   obtain rfl:time=0:=by simpa using f4
   exact Runs.refl _ _ _
 have s5:∀r,Runs f ⟨sm,m,st,ty,sq,seq,dY,time,false,0,[],[],[],[],false⟩ (wh ⟨sm,m,st,ty,sq,seq,dY,time,ss,bZ,maps,jf,jg,jh,np⟩++r) ⟨sm,m,st,ty,sq,seq,dY,time,ss,bZ,[],[],[],[],false⟩ r:=by
  intro r;unfold wh;cases ss with
  |true=>exact Runs.step (G.bZ _ bZ r n5 n6) (by simp<;>omega)
  |false=>
   obtain rfl:bZ=0:=by simpa using f5
   exact Runs.refl _ _ _
 unfold toks;refine(s1 _).trans ((s2 _).trans ((s3 _).trans ((s4 _).trans ((s5 _).trans ?_))));refine(afc G maps [] _ _ rfl hm).trans ?_;refine(afb G jf [] _ _ rfl ho).trans ?_;refine(aem G jg [] _ _ rfl hd).trans ?_;refine(afd G jh [] _ _ rfl ha).trans ?_;unfold xD;cases np with
 |true=>exact Runs.step (G.akn _ []) (by simp<;>omega)
 |false=>exact Runs.refl _ _ _
theorem awz(p:Pl)(hp:fM p)(hn:fO p):iter f (toks p).length Pl.zero (toks p)=some p:=by
 obtain⟨n,h1,h2⟩:=av2 G p hp hn;have:=h2 ((toks p).length-n);rw[agJ,show n+((toks p).length-n)=(toks p).length by simp at h1;omega]at this;exact this
end
def uy(f:Pl->eZ->Option (Pl×eZ))(s:List UInt8):Option Pl:=
 if s=[]then some Pl.zero else
  match nE s with
  |none=>none
  |some ws=>match iter f ws.length Pl.zero ws with
   |none=>none
   |some p=>if fM p/\nQ p=s then some p else none
theorem avh:∀{ts:eZ},(∀w∈ts,w≠[])->jC ts=[]->ts=[]
 | [],_,_=>rfl
 | [w],h,h2=>absurd h2 (h w (by simp))
 |w::v::r,_,h2=>by simp[jC]at h2
theorem ad7:fM Pl.zero/\fO Pl.zero/\nQ Pl.zero=[]:=⟨by decide,by decide,rfl⟩
theorem aw9{p:Pl}(hp:fM p)(h:toks p=[]):p=Pl.zero:=by
 obtain⟨⟨f1,f2,f3,f4,f5,t0,t1⟩,_⟩:=hp;unfold toks at h;simp only[List.append_eq_nil_iff]at h;obtain⟨h1,h2,h3,h4,h5,h6,h7,h8,h9,h10⟩:=h;obtain⟨sm,m,st,ty,sq,seq,dY,time,ss,bZ,maps,jf,jg,jh,np⟩:=p;unfold tk1 at h1;unfold tk2 at h2;unfold tk3 at h3;unfold tk4 at h4;unfold wh at h5;unfold xD at h10;cases sm<;>simp at h1;cases st<;>simp at h2;cases sq<;>simp at h3;cases dY<;>simp at h4;cases ss<;>simp at h5;cases np<;>simp at h10;obtain rfl:maps=[]:=by cases maps with|nil=>rfl|cons a l=>simp[rJ]at h6
 obtain rfl:jf=[]:=by cases jf with|nil=>rfl|cons a l=>simp[nk]at h7
 obtain rfl:jg=[]:=by cases jg with|nil=>rfl|cons a l=>simp[rM]at h8
 obtain rfl:jh=[]:=by cases jh with|nil=>rfl|cons a l=>simp[nk]at h9
 obtain rfl:m=false:=by simpa using f1
 obtain rfl:ty=0:=by simpa using f2
 obtain rfl:seq=0:=by simpa using f3
 obtain rfl:time=0:=by simpa using f4
 obtain rfl:bZ=0:=by simpa using f5
 rfl
theorem av6{p:Pl}(hp:fM p)(hn:fO p)(h:nQ p=[]):p=Pl.zero:=
 aw9 hp (avh (fun w hw=>SF (ae1 hp hn w hw)) h)
theorem atw{p:Pl}(hp:fM p)(hn:fO p)(h:nQ p≠[]):nE (nQ p)=some (toks p)/\nE (nQ p++ [32])=none:=by
 have hne:toks p≠[]:=fun e=>h (by unfold nQ;rw[e];rfl);have:=af5 (toks p) hne (ae1 hp hn);exact⟨this.1,this.2.1⟩
theorem agI{f:Pl->eZ->Option (Pl×eZ)}(hf:∀p ws q r,f p ws=some (q,r)->fO p->fO q):∀(k:Nat) (p:Pl) (ws:eZ) (q:Pl),iter f k p ws=some q->fO p->fO q
 |0,p,ws,q,h,hp=>by
  unfold iter at h;split at h
  .cases h;exact hp
  cases h
 |k+1,p,ws,q,h,hp=>by
  unfold iter at h;split at h
  .cases h;exact hp
  split at h
  .cases h
  next x hx=>exact agI hf k x.1 x.2 q h (hf p ws x.1 x.2 hx hp)
theorem av9{f:Pl->eZ->Option (Pl×eZ)}(G:Good f)(hf:∀p ws q r,f p ws=some (q,r)->fO p->fO q)(s:List UInt8)(p:Pl):uy f s=some p↔fM p/\fO p/\nQ p=s:=by
 constructor
 .intro h;unfold uy at h;split at h
  next hs=>subst hs;cases h;exact ad7
  .split at h
   .cases h
   .split at h
    .cases h
    .rename_i q hq;split at h
     next hr=>cases h;exact⟨hr.1,agI hf _ _ _ _ hq ad7.2.1,hr.2⟩
     .cases h
 rintro ⟨hp,hn,rfl⟩;unfold uy;split
 next hs=>rw[av6 hp hn hs]
 next hs=>rw[(atw hp hn hs).1];simp only[awz G p hp hn];rw[aC ⟨hp,trivial⟩]
end Go.Vc
namespace Go.Vc
open Go Go.Proofs Go.Plain Tryz
open Go.Lib (decDigits nDigits)
theorem ahN:∀(w:List UInt8) (v:Nat),v<=w.foldl (fun n x=>10*n+(x.toNat-48)) v
 | [],v=>aS _
 |x::w,v=>by
  have:=ahN w (10*v+(x.toNat-48));rw[Ak];omega
theorem aez(most:Nat):∀(w:List UInt8) (v:Nat),w.all IX=true->w.foldl (fun n x=>10*n+(x.toNat-48)) v<=most->BD most (w.map ([·])) v=(w.foldl (fun n x=>10*n+(x.toNat-48)) v,false)
 | [],v,_,_=>rfl
 |x::w,v,h,hm=>by
  rw[List.all_cons,bB]at h;have hd:=ng h.1;rw[Ak]at hm |-;have:=ahN w (10*v+(x.toNat-48));rw[jG,Sc,GV x [] (by omega)];simp only;rw[aC hd,zq (by omega)];exact aez most w _ h.2 hm
theorem auo{w:List UInt8}(h:w.all IX=true):chunks w=w.map ([·]):=by
 have:=Sl w [] (pR.2 fun x hx=>aia (pR.1 h x hx));rwa[lV,zf,lV]at this
theorem Bc(most:Nat)(n:Int)(h0:0<=n)(h:n<=most):dw most (gI n)=(n.toNat,false):=by
 obtain⟨h1,h2,_⟩:=afP n.toNat;unfold dw;rw[auo h1];have:=aez most (gI n) 0 h1 (by change Iz (decDigits n.toNat)<=most;omega);rw[this];exact pX (·,false) h2
def rG(p:Pl)(ws:eZ):Option (Pl×eZ):=if(lS p ws false).2.2 then none else some ((lS p ws false).1,(lS p ws false).2.1)
theorem zI{p q:Pl}{ws r:eZ}(h:lS p ws false=(q,r,false)):rG p ws=some (q,r):=by unfold rG;rw[h];rfl
theorem anI:¬lZ=mq:=by decide
theorem aoH:¬lZ=mH:=by decide
theorem anJ:¬lZ=mD:=by decide
theorem anK:¬lZ=mE:=by decide
theorem aoI:¬lZ=kC:=by decide
theorem anL:¬lZ=iV:=by decide
theorem anM:¬lZ=j6:=by decide
theorem aoJ:¬lZ=iW:=by decide
theorem am2:¬lZ=mg:=by decide
theorem anE:¬mq=lZ:=by decide
theorem ara:¬mq=mH:=by decide
theorem apX:¬mq=mD:=by decide
theorem apY:¬mq=mE:=by decide
theorem arb:¬mq=kC:=by decide
theorem apZ:¬mq=iV:=by decide
theorem ap0:¬mq=j6:=by decide
theorem ard:¬mq=iW:=by decide
theorem aox:¬mq=mg:=by decide
theorem aoA:¬mH=lZ:=by decide
theorem arn:¬mH=mq:=by decide
theorem aro:¬mH=mD:=by decide
theorem arp:¬mH=mE:=by decide
theorem asC:¬mH=kC:=by decide
theorem arq:¬mH=iV:=by decide
theorem ars:¬mH=j6:=by decide
theorem asD:¬mH=iW:=by decide
theorem ap9:¬mH=mg:=by decide
theorem anF:¬mD=lZ:=by decide
theorem ap1:¬mD=mq:=by decide
theorem arf:¬mD=mH:=by decide
theorem ap2:¬mD=mE:=by decide
theorem arh:¬mD=kC:=by decide
theorem ap3:¬mD=iV:=by decide
theorem ap4:¬mD=j6:=by decide
theorem ari:¬mD=iW:=by decide
theorem aoy:¬mD=mg:=by decide
theorem anG:¬mE=lZ:=by decide
theorem ap5:¬mE=mq:=by decide
theorem arj:¬mE=mH:=by decide
theorem ap6:¬mE=mD:=by decide
theorem ark:¬mE=kC:=by decide
theorem ap7:¬mE=iV:=by decide
theorem ap8:¬mE=j6:=by decide
theorem arl:¬mE=iW:=by decide
theorem aoz:¬mE=mg:=by decide
theorem aoK:¬kC=lZ:=by decide
theorem arx:¬kC=mq:=by decide
theorem asE:¬kC=mH:=by decide
theorem arz:¬kC=mD:=by decide
theorem arA:¬kC=mE:=by decide
theorem arB:¬kC=iV:=by decide
theorem arC:¬kC=j6:=by decide
theorem asF:¬kC=iW:=by decide
theorem aqh:¬kC=mg:=by decide
theorem anH:¬iV=lZ:=by decide
theorem aqa:¬iV=mq:=by decide
theorem aru:¬iV=mH:=by decide
theorem aqb:¬iV=mD:=by decide
theorem aqc:¬iV=mE:=by decide
theorem arv:¬iV=kC:=by decide
theorem aqd:¬iV=j6:=by decide
theorem arw:¬iV=iW:=by decide
theorem aoB:¬iV=mg:=by decide
theorem anN:¬j6=lZ:=by decide
theorem aqi:¬j6=mq:=by decide
theorem arD:¬j6=mH:=by decide
theorem aqj:¬j6=mD:=by decide
theorem aqk:¬j6=mE:=by decide
theorem arE:¬j6=kC:=by decide
theorem aql:¬j6=iV:=by decide
theorem arF:¬j6=iW:=by decide
theorem aoL:¬j6=mg:=by decide
theorem aoM:¬iW=lZ:=by decide
theorem arG:¬iW=mq:=by decide
theorem asG:¬iW=mH:=by decide
theorem arH:¬iW=mD:=by decide
theorem arI:¬iW=mE:=by decide
theorem asH:¬iW=kC:=by decide
theorem arJ:¬iW=iV:=by decide
theorem arK:¬iW=j6:=by decide
theorem aqm:¬iW=mg:=by decide
theorem am1:¬mg=lZ:=by decide
theorem aoC:¬mg=mq:=by decide
theorem aqe:¬mg=mH:=by decide
theorem aoD:¬mg=mD:=by decide
theorem aoE:¬mg=mE:=by decide
theorem aqf:¬mg=kC:=by decide
theorem aoF:¬mg=iV:=by decide
theorem aoG:¬mg=j6:=by decide
theorem aqg:¬mg=iW:=by decide
theorem awp:¬yu=yO:=by decide
theorem axU:Good rG where
 marker:=by
  intro p b r;refine zI ?_;cases b<;>simp[lS,awp]
 type:=by
  intro p n r h0 h1;refine zI ?_;simp[lS,anE,Bc 255 n h0 h1,Ch h0]
 seq:=by
  intro p n r h0 h1;refine zI ?_;simp[lS,aoA,arn,Bc 65535 n h0 (by omega),Ch h0]
 time:=by
  intro p n r h0 h1;refine zI ?_;simp[lS,anF,ap1,arf,Bc 4294967295 n h0 (by omega),Ch h0]
 bZ:=by
  intro p n r h0 h1;refine zI ?_;simp[lS,anG,ap5,arj,ap6,Bc 4294967295 n h0 (by omega),Ch h0]
 map:=by
  intro p a b r a0 a1 b0 b1;refine zI ?_;simp[lS,aoK,arx,asE,arz,arA,Bc 255 a a0 a1,Bc 255 b b0 b1,Ch a0,Ch b0]
 jf:=by
  intro p a d r a0 a1;refine zI ?_;simp[lS,anH,aqa,aru,aqb,aqc,arv,Bc 255 a a0 a1,Ch a0,Ug]
 drop:=by
  intro p a r a0 a1;refine zI ?_;simp[lS,anN,aqi,arD,aqj,aqk,arE,aql,Bc 255 a a0 a1,Ch a0]
 add:=by
  intro p a d r a0 a1;refine zI ?_;simp[lS,aoM,arG,asG,arH,arI,asH,arJ,arK,Bc 255 a a0 a1,Ch a0,Ug]
 akn:=by
  intro p r;refine zI ?_;simp[lS,am1,aoC,aqe,aoD,aoE,aqf,aoF,aoG,aqg]
def lens(p:Pl):Nat:=p.maps.length+p.jf.length+p.jg.length+p.jh.length
theorem ahz(most:Nat)(w:List UInt8):(dw most w).1<=most:=EF most _ _ (cu _)
theorem SH(p:Pl)(ws:eZ)(wr:Bool)(Q:Pl×eZ×Bool->Prop) 
  (h1:Q ({p with sm:=true,m:=decide (ws.tail.headD []=yO)},ws.tail.tail,(wr||ws.isEmpty||ws.tail.isEmpty)||(decide (ws.tail.headD []≠yO)&&decide (ws.tail.headD []≠yu))))
  (h2:Q ({p with st:=true,ty:=(dw 255 (ws.tail.headD [])).1},ws.tail.tail,(wr||ws.isEmpty||ws.tail.isEmpty)||(dw 255 (ws.tail.headD [])).2))
  (h3:Q ({p with sq:=true,seq:=(dw 65535 (ws.tail.headD [])).1},ws.tail.tail,(wr||ws.isEmpty||ws.tail.isEmpty)||(dw 65535 (ws.tail.headD [])).2))
  (h4:Q ({p with dY:=true,time:=(dw 4294967295 (ws.tail.headD [])).1},ws.tail.tail,(wr||ws.isEmpty||ws.tail.isEmpty)||(dw 4294967295 (ws.tail.headD [])).2))
  (h5:Q ({p with ss:=true,bZ:=(dw 4294967295 (ws.tail.headD [])).1},ws.tail.tail,(wr||ws.isEmpty||ws.tail.isEmpty)||(dw 4294967295 (ws.tail.headD [])).2))
  (h6:Q ({p with maps:=p.maps++ [⟨(dw 255 (ws.tail.headD [])).1,(dw 255 (ws.tail.tail.headD [])).1⟩]},ws.tail.tail.tail,(((wr||ws.isEmpty||ws.tail.isEmpty)||(dw 255 (ws.tail.headD [])).2)||ws.tail.tail.isEmpty)||(dw 255 (ws.tail.tail.headD [])).2))
  (h7:Q ({p with jf:=p.jf++ [⟨(dw 255 (ws.tail.headD [])).1,(mI (ws.tail.tail.headD [])).getD []⟩]},ws.tail.tail.tail,(((wr||ws.isEmpty||ws.tail.isEmpty)||(dw 255 (ws.tail.headD [])).2)||ws.tail.tail.isEmpty)|| !(mI (ws.tail.tail.headD [])).isSome))
  (h8:Q ({p with jg:=p.jg++ [((dw 255 (ws.tail.headD [])).1:Int)]},ws.tail.tail,(wr||ws.isEmpty||ws.tail.isEmpty)||(dw 255 (ws.tail.headD [])).2))
  (h9:Q ({p with jh:=p.jh++ [⟨(dw 255 (ws.tail.headD [])).1,(mI (ws.tail.tail.headD [])).getD []⟩]},ws.tail.tail.tail,(((wr||ws.isEmpty||ws.tail.isEmpty)||(dw 255 (ws.tail.headD [])).2)||ws.tail.tail.isEmpty)|| !(mI (ws.tail.tail.headD [])).isSome))
  (h10:Q ({p with np:=true},ws.tail,wr||ws.isEmpty))
  (h0:Q (p,ws.tail,true)):Q (lS p ws wr):=by
 unfold lS;dsimp only;by_cases c1:ws.headD []=lZ
 .rw[aC c1];exact h1
 rw[zq c1];by_cases c2:ws.headD []=mq
 .rw[aC c2];exact h2
 rw[zq c2];by_cases c3:ws.headD []=mH
 .rw[aC c3];exact h3
 rw[zq c3];by_cases c4:ws.headD []=mD
 .rw[aC c4];exact h4
 rw[zq c4];by_cases c5:ws.headD []=mE
 .rw[aC c5];exact h5
 rw[zq c5];by_cases c6:ws.headD []=kC
 .rw[aC c6];exact h6
 rw[zq c6];by_cases c7:ws.headD []=iV
 .rw[aC c7];exact h7
 rw[zq c7];by_cases c8:ws.headD []=j6
 .rw[aC c8];exact h8
 rw[zq c8];by_cases c9:ws.headD []=iW
 .rw[aC c9];exact h9
 rw[zq c9];by_cases c10:ws.headD []=mg
 .rw[aC c10];exact h10
 rw[zq c10];exact h0
theorem ahJ(p:Pl)(ws:eZ)(wr:Bool)(h:fO p):fO (lS p ws wr).1:=by
 obtain⟨n1,n2,n3,n4,n5,n6⟩:=h;have a1:=ahz 65535 (ws.tail.headD []);have a2:=ahz 4294967295 (ws.tail.headD []);refine SH p ws wr (fun G=>fO G.1) ?_ ?_ ?_ ?_ ?_ ?_ ?_ ?_ ?_ ?_ ?_;all_goals (unfold fO;(try simp only);omega)
theorem axS(p:Pl)(ws:eZ)(wr:Bool)(h:ws≠[]):lens (lS p ws wr).1+(lS p ws wr).2.1.length<=lens p+ws.length/\(lS p ws wr).2.1.length<ws.length:=by
 have hl:0<ws.length:=Mg.2 h;by_cases h1:ws.length=1
 all_goals
  refine SH p ws wr (fun G=>lens G.1+G.2.1.length<=lens p+ws.length/\G.2.1.length<ws.length) ?_ ?_ ?_ ?_ ?_ ?_ ?_ ?_ ?_ ?_ ?_;all_goals (unfold lens;(try simp only[cO,yJ,List.length_tail]);omega)
theorem agL(p:Pl)(ws:eZ)(wr:Bool):(lS p ws wr).2.1=ws.tail\/(lS p ws wr).2.1=ws.tail.tail\/(lS p ws wr).2.1=ws.tail.tail.tail:=by
 refine SH p ws wr (fun G=>G.2.1=ws.tail\/G.2.1=ws.tail.tail\/G.2.1=ws.tail.tail.tail) ?_ ?_ ?_ ?_ ?_ ?_ ?_ ?_ ?_ ?_ ?_;all_goals simp
theorem azs(p:Pl)(ws:eZ)(wr:Bool):∀w∈(lS p ws wr).2.1,w∈ws:=by
 intro w hw;rcases agL p ws wr with h|h|h<;>rw[h]at hw
 .exact Ji hw
 .exact Ji (Ji hw)
 exact Ji (Ji (Ji hw))
theorem axT(p:Pl)(ws:eZ)(q:Pl)(r:eZ)(h:rG p ws=some (q,r))(hp:fO p):fO q:=by
 unfold rG at h;split at h
 .cases h
 cases h;exact ahJ p ws false hp
end Go.Vc
namespace Go.Vc
open Go Go.Proofs Go.Plain Tryz
open Go.Lib (decDigits nDigits)
theorem ayY(l:List UInt8):(qs l).length<=3*l.length+2:=by
 have key:((chunks l).flatMap qc).length<=3*l.length:=by
  induction l using O4 with
  |nil=>rw[zf];simp
  |step l hne ih=>
   rw[A8 hne,List.flatMap_cons,cO];have h2:=Db hne;have hp:=Bb l;have h1:(qc (l.take (bQ l))).length<=3*bQ l:=by
    rcases agn hne with⟨_,r2,_,r4⟩|⟨_,r2,r4⟩|⟨_,_,r4⟩
    .rw[r4,r2];simp
    .rw[r4,r2];simp
    .rw[r4,jV];omega
   rw[lW]at ih;omega
 unfold qs;simp only[bR,cO,eB];omega
theorem vE(w:List UInt8)(r:eZ):(ku (w::r)).length=w.length+1+(ku r).length:=by
 unfold ku;simp only[List.flatMap_cons,cO,bR]
theorem J8:(ku ([]:eZ)).length=0:=rfl
theorem CY{n:Int}(h:n<4294967296):(gI n).length<=10:=(aib (by omega)).2
theorem Fa:lZ.length=6/\yO.length=2/\yu.length=3/\mq.length=4/\mH.length=3/\mD.length=4/\mE.length=4/\kC.length=3/\iV.length=4/\j6.length=4/\iW.length=3/\mg.length=5:=by decide
theorem fl1(p:Pl):(ku (tk1 p)).length<=11:=by
 obtain⟨k1,k2,k3,_⟩:=Fa;unfold tk1;split
 .split<;>simp only[vE,J8]<;>omega
 exact by simp[ku]
theorem fl2(p:Pl)(h:p.ty<4294967296):(ku (tk2 p)).length<=16:=by
 have:=CY h;have:=Fa;unfold tk2;split
 .simp only[vE,J8];omega
 exact by simp[ku]
theorem fl3(p:Pl)(h:p.seq<4294967296):(ku (tk3 p)).length<=16:=by
 have:=CY h;have:=Fa;unfold tk3;split
 .simp only[vE,J8];omega
 exact by simp[ku]
theorem fl4(p:Pl)(h:p.time<4294967296):(ku (tk4 p)).length<=16:=by
 have:=CY h;have:=Fa;unfold tk4;split
 .simp only[vE,J8];omega
 exact by simp[ku]
theorem fl5(p:Pl)(h:p.bZ<4294967296):(ku (wh p)).length<=16:=by
 have:=CY h;have:=Fa;unfold wh;split
 .simp only[vE,J8];omega
 exact by simp[ku]
theorem flM:∀(l:List Mp),(∀m∈l,1<=m.fr/\m.fr<=255/\1<=m.to/\m.to<=255)->(ku (rJ l)).length<=26*l.length
 | [],_=>aS _
 |m::l,h=>by
  obtain⟨h1,h2,h3,h4⟩:=h m (by simp);have:=CY (n:=m.fr) (by omega);have:=CY (n:=m.to) (by omega);have:=Fa;have ih:=flM l (fun m hm=>h m (by simp[hm]));rw[show rJ (m::l)=kC::gI m.fr::gI m.to::rJ l from rfl,vE,vE,vE,bR];omega
theorem Xe(w:List UInt8)(hw:w.length<=4):∀(l:List El),(∀e∈l,1<=e.id/\e.id<=255/\e.data.length<=255)->(ku (nk w l)).length<=800*l.length
 | [],_=>aS _
 |m::l,h=>by
  obtain⟨h1,h2,h3⟩:=h m (by simp);have:=CY (n:=m.id) (by omega);have:=ayY m.data;have ih:=Xe w hw l (fun m hm=>h m (by simp[hm]));rw[show nk w (m::l)=w::gI m.id::qs m.data::nk w l from rfl,vE,vE,vE,bR];omega
theorem flD:∀(l:List Int),(∀d∈l,1<=d/\d<=255)->(ku (rM l)).length<=26*l.length
 | [],_=>aS _
 |m::l,h=>by
  obtain⟨h1,h2⟩:=h m (by simp);have:=CY (n:=m) (by omega);have:=Fa;have ih:=flD l (fun m hm=>h m (by simp[hm]));rw[show rM (m::l)=j6::gI m::rM l from rfl,vE,vE,bR];omega
theorem flN(p:Pl):(ku (xD p)).length<=6:=by
 unfold xD;split
 .exact by decide
 exact by simp[ku]
theorem azu(p:Pl)(hp:fM p)(hn:fO p):(ku (toks p)).length<=100+26*p.maps.length+800*p.jf.length+26*p.jg.length+800*p.jh.length:=by
 obtain⟨⟨_,_,_,_,_,t0,t1⟩,r1,r2,r3,r4,r5,_⟩:=hp;obtain⟨n1,n2,n3,n4,n5,n6⟩:=hn;have a1:=fl1 p;have a2:=fl2 p (by omega);have a3:=fl3 p (by omega);have a4:=fl4 p (by omega);have a5:=fl5 p (by omega);have a6:=flM p.maps fun m hm=>by
  have a1:=tC r1 m.fr (gP.2 ⟨m,hm,rfl⟩);have a2:=tC r2 m.to (gP.2 ⟨m,hm,rfl⟩);exact⟨a1.1,a1.2,a2.1,a2.2⟩
 have a7:=Xe iV (by decide) p.jf (zO r4);have a8:=flD p.jg (tC r3);have a9:=Xe iW (by decide) p.jh (zO r5);have a10:=flN p;unfold toks;simp only[awF,cO];omega
theorem agp(p:Pl)(hp:fM p)(hn:fO p):(nQ p).length<=100+26*p.maps.length+800*p.jf.length+26*p.jg.length+800*p.jh.length:=by
 have:=azu p hp hn;unfold nQ;rw[<-avo,lW];omega
theorem axa{l:List Mp}{i:Nat}(hi:i<l.length):rJ (l.take (i+1))=rJ (l.take i)++ [kC,gI (l.getD i Mp.zero).fr,gI (l.getD i Mp.zero).to]:=by
 have e:l.getD i Mp.zero=l[i]:=by simp[List.getD,hi]
 rw[e,nM hi];unfold rJ;rw[List.flatMap_append];rfl
theorem agc{w:List UInt8}{l:List El}{i:Nat}(hi:i<l.length):nk w (l.take (i+1))=nk w (l.take i)++ [w,gI (l.getD i El.zero).id,qs (l.getD i El.zero).data]:=by
 have e:l.getD i El.zero=l[i]:=by simp[List.getD,hi]
 rw[e,nM hi];unfold nk;rw[List.flatMap_append];rfl
theorem axb{l:List Int}{i:Nat}(hi:i<l.length):rM (l.take (i+1))=rM (l.take i)++ [j6,gI (l.getD i 0)]:=by
 have e:l.getD i 0=l[i]:=by simp[List.getD,hi]
 rw[e,nM hi];unfold rM;rw[List.flatMap_append];rfl
theorem ahj:∀l:List Mp,(rJ l).length=3*l.length
 | []=>rfl
 |m::l=>by rw[show rJ (m::l)=kC::gI m.fr::gI m.to::rJ l from rfl,bR,bR,bR,ahj l,bR];omega
theorem Uh(w:List UInt8):∀l:List El,(nk w l).length=3*l.length
 | []=>rfl
 |m::l=>by rw[show nk w (m::l)=w::gI m.id::qs m.data::nk w l from rfl,bR,bR,bR,Uh w l,bR];omega
theorem ahk:∀l:List Int,(rM l).length=2*l.length
 | []=>rfl
 |m::l=>by rw[show rM (m::l)=j6::gI m::rM l from rfl,bR,bR,ahk l,bR];omega
theorem ayz(p:Pl):(tk1 p).length<=2/\(tk2 p).length<=2/\(tk3 p).length<=2/\(tk4 p).length<=2/\(wh p).length<=2/\(xD p).length<=1:=by
 unfold tk1 tk2 tk3 tk4 wh xD;refine⟨?_,?_,?_,?_,?_,?_⟩<;>split<;>simp
theorem acn(p:Pl)(hf:lJ p)(hn:fO p):PC prog adK [(ig,iC p)] [(.str,.str (if fM p then nQ p else [])),(I64,.int (if fM p then 0 else 1))]:=by
 have hf0:=hf;obtain⟨e1,e2,e3,e4⟩:=hf;have hn0:=hn;obtain⟨n1,n2,n3,n4,n5,n6⟩:=hn;obtain⟨l1,l2,l3,l4,l5,lN⟩:=ayz p;apply aqH rfl;simp only[abZ,aJ,aG];refine⟨_,Q8 p hf0,fun h=>?_,fun h=>?_⟩
 .have hr:¬fM p:=by simpa using h
  rw[zq hr,zq hr]
 have hp:fM p:=by simpa using h
 have hp0:=hp;rw[aC hp,aC hp];obtain⟨⟨_,_,_,_,_,t0,t1⟩,r1,r2,r3,r4,r5,_⟩:=hp;refine VC.go_meet [.ls ((tk1 p).map .str)] ?_ ?_
 .simp only[aJ,aG];refine⟨fun hb=>⟨by simp only[bR,eB];omega,?_⟩,fun hb=>⟨fun hc=>⟨by simp only[bR,eB];omega,?_⟩,fun hc=>?_⟩⟩
  .unfold tk1;rw[aC hb.1,aC hb.2];rfl
  .unfold tk1;rw[aC hc,zq (by rcases hb with hb|hb;exact absurd hc hb;simp[hb])];rfl
  .unfold tk1;rw[zq (by simp[hc])];rfl
 refine VC.go_meet [.ls ((tk1 p++tk2 p).map .str)] ?_ ?_
 .simp only[aJ,aG,bJ];refine⟨fun hb=>⟨_,GQ p.ty t0 (by omega),by simp only[bR,eB];omega,?_⟩,fun hb=>?_⟩
  .unfold tk2;rw[aC hb];simp only[gW];rfl
  .unfold tk2;rw[zq (by simp[hb]),lV]
 refine VC.go_meet [.ls ((tk1 p++tk2 p++tk3 p).map .str)] ?_ ?_
 .simp only[aJ,aG,bJ];refine⟨fun hb=>⟨_,atE p.seq n1 n2,by simp only[bR,eB,cO];omega,?_⟩,fun hb=>?_⟩
  .unfold tk3;rw[aC hb];simp only[gW,gJ];rfl
  .unfold tk3;rw[zq (by simp[hb]),lV]
 refine VC.go_meet [.ls ((tk1 p++tk2 p++tk3 p++tk4 p).map .str)] ?_ ?_
 .simp only[aJ,aG,bJ];refine⟨fun hb=>⟨_,adE p.time n3 n4,by simp only[bR,eB,cO];omega,?_⟩,fun hb=>?_⟩
  .unfold tk4;rw[aC hb];simp only[gW,gJ];rfl
  .unfold tk4;rw[zq (by simp[hb]),lV]
 refine VC.go_meet [.ls ((tk1 p++tk2 p++tk3 p++tk4 p++wh p).map .str)] ?_ ?_
 .simp only[aJ,aG,bJ];refine⟨fun hb=>⟨_,adE p.bZ n5 n6,by simp only[bR,eB,cO];omega,?_⟩,fun hb=>?_⟩
  .unfold wh;rw[aC hb];simp only[gW,gJ];rfl
  .unfold wh;rw[zq (by simp[hb]),lV]
 obtain⟨T,hT⟩:∃T,tk1 p++tk2 p++tk3 p++tk4 p++wh p=T:=⟨_,rfl⟩;have lT:T.length<=10:=by rw[<-hT];simp only[cO];omega
 rw[hT];have hm:∀m∈p.maps,1<=m.fr/\m.fr<=255/\1<=m.to/\m.to<=255:=fun m hm=>by
  have a1:=tC r1 m.fr (gP.2 ⟨m,hm,rfl⟩);have a2:=tC r2 m.to (gP.2 ⟨m,hm,rfl⟩);exact⟨a1.1,a1.2,a2.1,a2.2⟩
 have ho:=zO r4;have ha:=zO r5;have hd:=tC r3;refine VC.jw (fun i:Nat=> [.ls ((T++rJ (p.maps.take i)).map .str),.int (i:Int)]) (fun i=>i<=p.maps.length) (fun i=>p.maps.length-i) 0 (by rw[vY,show rJ []=[]from rfl,lV];rfl) (cu _) fun i hi=>?_;have lL:=ahj (p.maps.take i);rw[jV]at lL;simp only[aJ,aG,bJ,cO];refine⟨fun hc=>?_,fun hc=>?_⟩
 .have hk:i<p.maps.length:=by omega
  have hm:=hm _ (Ce hk);have e:p.maps.getD i Mp.zero=p.maps[i]:=by simp[List.getD,hk]
  rw[dF,Ou p.maps i hk,e];refine⟨by omega,by omega,_,GQ p.maps[i].fr (by omega) (by omega),_,GQ p.maps[i].to (by omega) (by omega),by simp only[bR,eB];omega,by omega,i+1,?_,by omega,by omega⟩;rw[axa hk,e];simp only[gW,gJ];rfl
 obtain rfl:i=p.maps.length:=by omega
 rw[jQ]at lL |-;obtain⟨T2,WW⟩:∃T2,T++rJ p.maps=T2:=⟨_,rfl⟩;have lT2:T2.length<=3000010:=by rw[<-WW];simp only[cO];omega
 simp only[<-gW,WW];refine VC.jw (fun i:Nat=> [.ls ((T2++nk iV (p.jf.take i)).map .str),.int (i:Int)]) (fun i=>i<=p.jf.length) (fun i=>p.jf.length-i) 0 (by rw[vY,show nk iV []=[]from rfl,lV];rfl) (cu _) fun i hi=>?_;have lL:=Uh iV (p.jf.take i);rw[jV]at lL;simp only[aJ,aG,bJ,cO];refine⟨fun hc=>?_,fun hc=>?_⟩
 .have hk:i<p.jf.length:=by omega
  have hm:=ho _ (Ce hk);have e:p.jf.getD i El.zero=p.jf[i]:=by simp[List.getD,hk]
  rw[Dg p.jf i hk,e];simp only[iP,jE];refine⟨by omega,by omega,_,GQ p.jf[i].id (by omega) (by omega),_,afr p.jf[i].data (by omega),by simp only[bR,eB];omega,by omega,i+1,?_,by omega,by omega⟩;rw[agc hk,e];simp only[gW,gJ];rfl
 obtain rfl:i=p.jf.length:=by omega
 rw[jQ]at lL |-;obtain⟨T3,WV⟩:∃T3,T2++nk iV p.jf=T3:=⟨_,rfl⟩;have lT3:T3.length<=6000010:=by rw[<-WV];simp only[cO];omega
 simp only[<-gW,WV];refine VC.jw (fun i:Nat=> [.ls ((T3++rM (p.jg.take i)).map .str),.int (i:Int)]) (fun i=>i<=p.jg.length) (fun i=>p.jg.length-i) 0 (by rw[vY,show rM []=[]from rfl,lV];rfl) (cu _) fun i hi=>?_;have lL:=ahk (p.jg.take i);rw[jV]at lL;simp only[aJ,aG,bJ,cO];refine⟨fun hc=>?_,fun hc=>?_⟩
 .have hk:i<p.jg.length:=by omega
  have hm:=hd _ (Ce hk);have e:p.jg.getD i 0=p.jg[i]:=by simp[List.getD,hk]
  rw[dF,NZ p.jg i hk,e];refine⟨by omega,by omega,_,GQ p.jg[i] (by omega) (by omega),by simp only[bR,eB];omega,by omega,i+1,?_,by omega,by omega⟩;rw[axb hk,e];simp only[gW,gJ];rfl
 obtain rfl:i=p.jg.length:=by omega
 rw[jQ]at lL |-;obtain⟨T4,WU⟩:∃T4,T3++rM p.jg=T4:=⟨_,rfl⟩;have lT4:T4.length<=8000010:=by rw[<-WU];simp only[cO];omega
 simp only[<-gW,WU];refine VC.jw (fun i:Nat=> [.ls ((T4++nk iW (p.jh.take i)).map .str),.int (i:Int)]) (fun i=>i<=p.jh.length) (fun i=>p.jh.length-i) 0 (by rw[vY,show nk iW []=[]from rfl,lV];rfl) (cu _) fun i hi=>?_;have lL:=Uh iW (p.jh.take i);rw[jV]at lL;simp only[aJ,aG,bJ,cO];refine⟨fun hc=>?_,fun hc=>?_⟩
 .have hk:i<p.jh.length:=by omega
  have hm:=ha _ (Ce hk);have e:p.jh.getD i El.zero=p.jh[i]:=by simp[List.getD,hk]
  rw[Dg p.jh i hk,e];simp only[iP,jE];refine⟨by omega,by omega,_,GQ p.jh[i].id (by omega) (by omega),_,afr p.jh[i].data (by omega),by simp only[bR,eB];omega,by omega,i+1,?_,by omega,by omega⟩;rw[agc hk,e];simp only[gW,gJ];rfl
 obtain rfl:i=p.jh.length:=by omega
 rw[jQ]at lL |-;obtain⟨T5,WT⟩:∃T5,T4++nk iW p.jh=T5:=⟨_,rfl⟩;have lT5:T5.length<=11000010:=by rw[<-WT];simp only[cO];omega
 simp only[<-gW,WT];have hall:T5++xD p=toks p:=by
  rw[<-WT,<-WU,<-WV,<-WW,<-hT];unfold toks;simp only[gJ]
 refine VC.go_meet [.ls ((T5++xD p).map .str)] ?_ ?_
 .simp only[aJ,aG,bJ];refine⟨fun hb=>⟨by simp only[bR,eB];omega,?_⟩,fun hb=>?_⟩
  .unfold xD;rw[aC hb];simp only[gW];rfl
  .unfold xD;rw[zq (by simp[hb]),lV]
 rw[hall];simp only[aJ,aG];have hpl:=agp p hp0 hn0;refine⟨_,ay4 (toks p) (by rw[<-hall];simp only[cO];omega) (by change (nQ p).length<=_;omega),rfl⟩
end Go.Vc
namespace Go.Vc
open Go Go.Proofs Go.RowKit Go.Plain Tryz
theorem aev{W:World}{N:Nat->Prop}:∀l:List Mp,cZ W N yG (zH l) (l.map um)
 | []=>rfl
 |m::l=>⟨[.int .i64 m.fr,.int .i64 m.to],zH l,rfl,⟨rfl,[.int .i64 m.fr],[.int .i64 m.to],rfl,rfl,rfl,[.int .i64 m.to],[],rfl,rfl,rfl⟩,aev l⟩
theorem aew{W:World}{N:Nat->Prop}:∀l:List Int,cZ W N I64 (l.map (Value.int .i64 ·)) (l.map .int)
 | []=>rfl
 |m::l=>⟨[.int .i64 m],l.map (Value.int .i64 ·),rfl,rfl,aew l⟩
theorem Px{W:World}{lo:Nat}{e:TypeId}{size:Nat}{v:Value}{n:Nat}{xs:List Value}(h:W.ownsRow lo e size v n xs):W.jL (fun g=>lo<=g) e size v n xs:=h
theorem Ot{W:World}{lo:Nat}{e:TypeId}{size:Nat}{v:Value}{n:Nat}{xs:List Value}(h:W.ownsRow lo e size v n xs):∀g,dI v=some g->lo<=g:=by
 intro g hg;rcases h.2 with⟨h0,_⟩|⟨g',cap,cur,h1,h2,_⟩
 .rw[h0]at hg;cases hg
 rw[h1]at hg;simp only[dI,dP]at hg;omega
theorem Oq{W:World}{lo:Nat}{e:TypeId}{size:Nat}{v:Value}{n:Nat}{xs:List Value}(h:W.ownsRow lo e size v n xs):∃a l c,v=.slice a l c:=by
 rcases h.2 with⟨h0,_⟩|⟨g',cap,cur,h1,h2,_⟩
 .exact ⟨_,_,_,h0⟩
 exact ⟨_,_,_,h1⟩
theorem ayW{W:World}{lo pb rb:Nat}{p:Pl}(h:kJ W lo pb rb p):∃vm vo vd va,W.heap[pb]?=some (.cells (j5 p vm vo vd va) 29 (0,0))/\Rd W (fun b=>lo<=b) ig (j5 p vm vo vd va).toList (iC p)/\(∃a l c,vm=.slice a l c)/\(∃a l c,vo=.slice a l c)/\(∃a l c,vd=.slice a l c)/\(∃a l c,va=.slice a l c):=by
 obtain⟨vm,vo,vd,va,xo,xa,h1,h2,h3,h4,o1,o2,o3,o4,r1,r2,d,n1,n2,n3,n4⟩:=h;refine⟨vm,vo,vd,va,h1,?_,Oq o1,Oq o2,Oq o3,Oq o4⟩;have a1:Rd W (fun b=>lo<=b) (.sl yG) [vm] (CG p.maps):=zK (xs:=zH p.maps) (et:=127) (B:=fun g=>lo<=g) (by rw[show(CG p.maps).toList.length=p.maps.length by simp[CG]];exact Px o1) (aev p.maps) (Ot o1);have a2:Rd W (fun b=>lo<=b) (.sl ou) [vo] (ny p.jf):=zK (xs:=xo) (et:=103) (B:=fun g=>lo<=g) (by rw[show(ny p.jf).toList.length=p.jf.length by simp[ny]];exact Px o2) (r1.mono (aS _) fun b hb _=>⟨rfl,hb.1⟩) (Ot o2);have a3:Rd W (fun b=>lo<=b) (.sl I64) [vd] (Ints p.jg):=zK (xs:=p.jg.map (Value.int .i64 ·)) (et:=3) (B:=fun g=>lo<=g) (by rw[show(Ints p.jg).toList.length=p.jg.length by simp[Ints]];exact Px o3) (aew p.jg) (Ot o3);have a4:Rd W (fun b=>lo<=b) (.sl ou) [va] (ny p.jh):=zK (xs:=xa) (et:=103) (B:=fun g=>lo<=g) (by rw[show(ny p.jh).toList.length=p.jh.length by simp[ny]];exact Px o4) (r2.mono (aS _) fun b hb _=>⟨rfl,hb.1⟩) (Ot o4);exact⟨rfl,[_],_,rfl,rfl,rfl,[_],_,rfl,rfl,rfl,[_],_,rfl,rfl,rfl,[_],_,rfl,rfl,rfl,[_],_,rfl,rfl,rfl,[_],_,rfl,rfl,rfl,[_],_,rfl,rfl,rfl,[_],_,rfl,rfl,rfl,[_],_,rfl,rfl,rfl,[_],_,rfl,rfl,
  rfl,[vm],_,rfl,a1,rfl,[vo],_,rfl,a2,rfl,[vd],_,rfl,a3,rfl,[va],_,rfl,a4,rfl,[_],[],rfl,rfl,rfl⟩
abbrev zeroCells:Array Value:=j5 Pl.zero (.slice none 0 0) (.slice none 0 0) (.slice none 0 0) (.slice none 0 0)
theorem Dc(W:World)(N:Nat->Prop):Rd W N ig zeroCells.toList (iC Pl.zero):=by
 have a:∀s,Rd W N (.sl s) [.slice none 0 0] (.ls []):=fun s=>⟨none,0,rfl,aS _,cu _,fun h=>absurd rfl h⟩;exact⟨rfl,[_],_,rfl,rfl,rfl,[_],_,rfl,rfl,rfl,[_],_,rfl,rfl,rfl,[_],_,rfl,rfl,rfl,[_],_,rfl,rfl,rfl,[_],_,rfl,rfl,rfl,[_],_,rfl,rfl,rfl,[_],_,rfl,rfl,rfl,[_],_,rfl,rfl,rfl,[_],_,rfl,rfl,
  rfl,[_],_,rfl,a _,rfl,[_],_,rfl,a _,rfl,[_],_,rfl,a _,rfl,[_],_,rfl,a _,rfl,[_],[],rfl,rfl,rfl⟩
theorem avG(W:World)(lo pb rb:Nat)(h1:lo<=pb)(h2:lo<=rb)(h3:pb≠rb)(h:W.heap[pb]?=some (.cells zeroCells 29 (0,0))):kJ W lo pb rb Pl.zero:=
 ⟨.slice none 0 0,.slice none 0 0,.slice none 0 0,.slice none 0 0,[],[],h,h1,h2,h3,kF _ _ _ _,kF _ _ _ _,kF _ _ _ _,kF _ _ _ _,rfl,rfl,(fun g h=>by cases h),by simp[Value.ownBlock],by simp[Value.ownBlock],by simp[Value.ownBlock],by simp[Value.ownBlock]⟩
theorem au2{W:World}(aX:KW prog W){lo pb rb:Nat}{p:Pl}(hf:lJ p)(hn:fO p){cs:Array Value}(h:Rd W (fun b=>lo<=b) ig cs.toList (iC p)):
  Calls prog 20 #[.agg cs] W fun e W'=>e=.returned (.tuple #[.string ⟨(if fM p then nQ p else []).toArray⟩,.int .i64 (if fM p then 0 else 1)])/\Below W.heap.size W W':=by
 have hc:=((acn p hf hn).oF (by decide)).2 W (fun b=>lo<=b) [.agg cs] aX ⟨_,_,rfl,⟨cs.toList,h,by simp[Sh.mk,Sh.isAgg]⟩,rfl⟩;refine hc.mono fun e w' ⟨v,he,⟨vs,⟨v1,r1,hv1,⟨us,hu,hv2⟩,v3,r3,hv3,⟨Jl,hu2,hv4⟩,hr⟩,hv⟩,hb⟩=>⟨?_,hb⟩;simp only[fI]at hr;subst hr;simp only[Rd]at hu hu2;subst hu hu2;subst hv1 hv3;simp[Sh.mk,Sh.isAgg]at hv2 hv4;subst hv2 hv4;simp at hv;rw[he,hv]
theorem auB(s:List UInt8)(hs:s.length<=1000000)(w:World)(aX:KW prog w):
  Calls prog 49 #[.string ⟨s.toArray⟩] w fun e w'=>∃sv,e=.returned (.tuple #[sv,.int .i64 (Ql (nE s))])/\(∀lo rb,w'.heap.size<=lo->lo<=rb->jI w' lo rb sv ((nE s).getD []))/\Below w.heap.size w w':=by
 have h:=((aqX s hs).oF (by decide)).2 w (fun _=>True) [.string ⟨s.toArray⟩] aX ⟨_,_,rfl,⟨[.string ⟨s.toArray⟩],rfl,rfl⟩,rfl⟩;refine h.mono fun e w' ⟨v,he,⟨vs,⟨v1,r1,hv1,⟨us,hu,hv2⟩,v3,r3,hv3,⟨Jl,hu2,hv4⟩,hr⟩,hv⟩,hb⟩=>?_;simp only[fI]at hr;subst hr;simp only[Rd]at hu2;obtain⟨a,cap,e1,e2,e3,e4⟩:=hu;subst e1 hu2;subst hv1 hv3;simp[Sh.mk,Sh.isAgg]at hv2 hv4;subst hv2 hv4;simp at hv;have el:(C.ls (D9 (nE s))).toList.length=((nE s).getD []).length:=by simp[D9]
 have el2:(D9 (nE s)).length=((nE s).getD []).length:=by simp[D9]
 rw[el]at e2;rw[el2]at hv;refine⟨_,by rw[he,hv],fun lo rb h1 h2=>⟨a,cap,rfl,e2,e3,fun hne=>?_⟩,hb⟩;obtain⟨b,off,ea,_,hlt,hat⟩:=e4 (by simpa[D9]using hne);refine⟨b,off,ea,by omega,by omega,fun j x hx=>?_⟩;obtain⟨us,hl,hcs,hr⟩:=hat j (.str x) (by simp[D9,hx]);change us=[.string ⟨x.toArray⟩]at hr
 subst hr;have h3:=hcs 0 (.string ⟨x.toArray⟩) rfl;have e3:off+j*Sh.size .str+0=off+j:=by simp[Sh.size]
 rw[e3]at h3;exact h3
theorem nX{P:Program}{fn:Func}{p u:Tmp}{ty:TypeId}(h:fn.results= #[.cell p ty,.tmp u])(tmps:Array Value)(w:World)(g:Nat)(t:TypeId)(cs:Array Value)(fr:Nat×Nat)(d:TypeDesc)
  (hp:tmps.getD p undef=.pointer (some ⟨g,0,none⟩)) (hg:w.heap[g]?=some (.cells cs t fr))
  (hu:P.underlying ty=some d) (hd:(match d with| .struct _| .array _ _=>true|_=>false)=true) (hi:(P.info? ty).map (·.size)=some cs.size) (v:Value) (hv:tmps.getD u undef=v):
  (results fn tmps).run P w=.ok (.tuple #[.agg cs,v]) w:=by
 have hp':tmps[p]?.getD undef=.pointer (some ⟨g,0,none⟩):=by simpa using hp
 have hv':tmps[u]?.getD undef=v:=by simpa using hv
 simp[results,h,hp',hv',asAddr,run_loadVar_row w g t ty cs fr d hg hu hd hi]
end Go.Vc
namespace Go.Vc
open Go Go.Proofs Go.Plain Tryz
open Go.Lib (decDigits nDigits)
theorem afy:∀{ws:eZ},(∀w∈ws,w≠[])->ws.length<=(jC ws).length/\∀w∈ws,w.length<=(jC ws).length
 | [],_=>⟨aS _,fun w h=>by cases h⟩
 | [w],h=>by
  have:=Mg.2 (h w (by simp));refine⟨by simp[jC];omega,fun v hv=>?_⟩;rw[sF]at hv;rw[hv];exact aS _
 |w::v::r,h=>by
  obtain⟨h1,h2⟩:=afy (ws:=v::r) (fun x hx=>h x (by simp[hx]));have e:(jC (w::v::r)).length=w.length+(jC (v::r)).length+1:=by
   rw[show jC (w::v::r)=w++32::jC (v::r)from rfl,cO,bR];omega
  rw[e];refine⟨by simp only[bR]at h1 |-;omega,fun x hx=>?_⟩;rcases iR.1 hx with rfl|hx
  .omega
  have:=h2 x hx;omega
theorem asA{f:Pl->eZ->Option (Pl×eZ)}{s:List UInt8}{ws:eZ}(h:s≠[])(hw:nE s=some ws):uy f s=(iter f ws.length Pl.zero ws).bind fun p=>if fM p/\nQ p=s then some p else none:=by
 unfold uy;rw[zq h,hw];change (match iter f ws.length Pl.zero ws with|none=>none|some p=>if fM p/\nQ p=s then some p else none)=_
 cases iter f ws.length Pl.zero ws<;>rfl
end Go.Vc
