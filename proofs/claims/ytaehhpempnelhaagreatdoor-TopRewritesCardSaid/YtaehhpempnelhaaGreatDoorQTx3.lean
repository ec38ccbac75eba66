/-
  Contracts of functions of the program, each out of its condition or by a walk, and plain lemmas.
-/
import Derived.Test.YtaehhpempnelhaaGreatDoorQTx1
import Derived.Shelf.Strings.Builder1
import Derived.Shelf.Strings.Builder2
import Derived.Shelf.Strings.OnBuilder
import Derived.Shelf.Small.Strs
import Derived.Shelf.Strings.BuilderF
import Derived.Shelf.Strings.BuilderK
import Derived.Shelf.Strings.BuilderRune
import Derived.Shelf.Strings.Builder2Cap
import Derived.Shelf.Strconv.Itoa0
import Derived.Shelf.Strconv.Itoa1
import Derived.Shelf.LaysM
import Derived.Shelf.Strconv.Itoa2
import Derived.Shelf.Strconv.Itoa3
import Derived.Shelf.Strconv.Itoa4
import Derived.Test.YtaehhpempnelhaaGreatDoorQVcs1
import Derived.Test.YtaehhpempnelhaaGreatDoorQTt
import Derived.Test.YtaehhpempnelhaaGreatDoorQTx2
import Derived.Test.YtaehhpempnelhaaGreatDoorQYs
import Derived.Test.YtaehhpempnelhaaGreatDoorQYt
import Derived.Test.YtaehhpempnelhaaGreatDoorQYu
import Derived.Laws.ResultCell
namespace Go.Proofs
open Go.Shelf
def Tryz.lays156_ren:Go.Shelf.Ren:=⟨fun|156=>56|165=>103|166=>104|169=>105|240=>130|241=>131|276=>169|277=>170|n=>n,fun|31=>128|9=>9|3=>3|4=>4|0=>0|20=>20|72=>194|76=>198|70=>192|37=>22|75=>197|127=>242|164=>310|5=>5|80=>186|n=>n,fun|n=>n⟩
theorem Tryz.lays156:Go.Proofs.Lays.n156 Tryz.prog Tryz.lays156_ren:= {
 mixed:=by kernel_rfl
 f156:=Tryz.func56.trans (congrArg some (by kernel_rfl))
 f165:=Tryz.func103.trans (congrArg some (by kernel_rfl))
 f166:=Tryz.func104.trans (congrArg some (by kernel_rfl))
 f169:=Tryz.func105.trans (congrArg some (by kernel_rfl))
 f240:=Tryz.func130.trans (congrArg some (by kernel_rfl))
 f241:=Tryz.func131.trans (congrArg some (by kernel_rfl))
 f276:=Tryz.func169.trans (congrArg some (by kernel_rfl))
 f277:=Tryz.func170.trans (congrArg some (by kernel_rfl))
 t0:=Tryz.underlying0
 a0:=Tryz.isAgg0
 z0:=Tryz.sizeOf0
 v0:=Tryz.zeroValue0
 t3:=Tryz.underlying3
 a3:=Tryz.isAgg3
 z3:=Tryz.sizeOf3
 v3:=Tryz.zeroValue3
 t4:=Tryz.underlying4
 a4:=Tryz.isAgg4
 z4:=Tryz.sizeOf4
 v4:=Tryz.zeroValue4
 t9:=Tryz.underlying9
 a9:=Tryz.isAgg9
 z9:=Tryz.sizeOf9
 v9:=Tryz.zeroValue9
 t20:=Tryz.underlying20
 a20:=Tryz.isAgg20
 z20:=Tryz.sizeOf20
 v20:=Tryz.zeroValue20
 t31:=Tryz.underlying128
 a31:=Tryz.isAgg128
 z31:=Tryz.sizeOf128
 v31:=Tryz.zeroValue128
 t37:=Tryz.underlying22
 a37:=Tryz.isAgg22
 z37:=Tryz.sizeOf22
 v37:=Tryz.zeroValue22
 t70:=Tryz.underlying192
 a70:=Tryz.isAgg192
 z70:=Tryz.sizeOf192
 v70:=Tryz.zeroValue192
 t72:=Tryz.underlying194
 a72:=Tryz.isAgg194
 z72:=Tryz.sizeOf194
 v72:=Tryz.zeroValue194
 t75:=Tryz.underlying197
 a75:=Tryz.isAgg197
 z75:=Tryz.sizeOf197
 v75:=Tryz.zeroValue197
 t76:=Tryz.underlying198
 a76:=Tryz.isAgg198
 z76:=Tryz.sizeOf198
 v76:=Tryz.zeroValue198
 t127:=Tryz.underlying242
 a127:=Tryz.isAgg242
 z127:=Tryz.sizeOf242
 v127:=Tryz.zeroValue242
 t164:=Tryz.underlying310
 a164:=Tryz.isAgg310
 z164:=Tryz.sizeOf310
 v164:=Tryz.zeroValue310}
theorem Tryz.Builder_Extra_156:Builder.Extra Tryz.prog Tryz.lays156_ren:= {
 sizeBuilder:=by kernel_rfl
 liesBuilder:=by kernel_rfl
 t5:=Tryz.underlying5
 a5:=Tryz.isAgg5
 z5:=Tryz.sizeOf5
 v5:=Tryz.zeroValue5
 infoByte:=by kernel_rfl
 cellsByte:=by kernel_rfl
 sizeByte:=by kernel_rfl
 neB5:=by decide}
open Go.RowKit in
theorem Tryz.strings_Join_none (a:Option Addr) (c:Nat) (sep:ByteArray) (w:World):
  Calls Tryz.prog 56 #[.slice a 0 c,.string sep] w fun e w'=>e= .returned (.string ⟨#[]⟩)∧w'=w:=Any.strings_Join_none Tryz.lays156 Tryz.Builder_Extra_156 a c sep w
open Go.RowKit in
theorem Tryz.strings_Join (bk o c:Nat) (xs:List ByteArray) (sep:ByteArray) (w:World) (hcells:∀(j:Nat) x,xs[j]?=some x→w.cell? ⟨bk,o+j,none⟩=some (.string x)) (hbk:bk<w.heap.size) (hN:xs.length≤140737488355328) (hcap:xs.length≤c) (hlen:(Lib.join (xs.map (·.data.toList)) sep.data.toList).length≤140737488355328):
  Calls Tryz.prog 56 #[.slice (some ⟨bk,o,none⟩) xs.length c,.string sep] w fun e w'=>e= .returned (.string ⟨(Lib.join (xs.map (·.data.toList)) sep.data.toList).toArray⟩)∧Below w.heap.size w w':=Any.strings_Join Tryz.lays156 Tryz.Builder_Extra_156 bk o c xs sep w hcells hbk hN hcap hlen
def Tryz.laysM173_ren:Go.Shelf.Ren:=⟨fun|173=>101|246=>125|283=>163|284=>164|285=>165|286=>166|129=>65|317=>211|318=>212|319=>213|320=>214|337=>239|338=>240|n=>n,fun|2=>2|3=>3|9=>9|4=>4|171=>303|0=>0|53=>68|37=>22|5=>5|173=>305|212=>359|51=>24|20=>20|213=>360|46=>98|232=>391|233=>392|n=>n,fun|17=>2|18=>6|19=>7|n=>n⟩
theorem Tryz.laysM173:Go.Proofs.LaysM.n173 Tryz.prog Tryz.laysM173_ren:= {
 mixed:=by kernel_rfl
 f129:=Tryz.func65.trans (congrArg some (by kernel_rfl))
 f173:=Tryz.func101.trans (congrArg some (by kernel_rfl))
 f246:=Tryz.func125.trans (congrArg some (by kernel_rfl))
 f283:=Tryz.func163.trans (congrArg some (by kernel_rfl))
 f284:=Tryz.func164.trans (congrArg some (by kernel_rfl))
 f285:=Tryz.func165.trans (congrArg some (by kernel_rfl))
 f286:=Tryz.func166.trans (congrArg some (by kernel_rfl))
 f317:=Tryz.func211.trans (congrArg some (by kernel_rfl))
 f318:=Tryz.func212.trans (congrArg some (by kernel_rfl))
 f319:=Tryz.func213.trans (congrArg some (by kernel_rfl))
 f320:=Tryz.func214.trans (congrArg some (by kernel_rfl))
 f337:=Tryz.func239.trans (congrArg some (by kernel_rfl))
 f338:=Tryz.func240.trans (congrArg some (by kernel_rfl))
 t0:=Tryz.underlying0
 a0:=Tryz.isAgg0
 z0:=Tryz.sizeOf0
 v0:=Tryz.zeroValue0
 t2:=Tryz.underlying2
 a2:=Tryz.isAgg2
 z2:=Tryz.sizeOf2
 v2:=Tryz.zeroValue2
 t3:=Tryz.underlying3
 a3:=Tryz.isAgg3
 z3:=Tryz.sizeOf3
 v3:=Tryz.zeroValue3
 t4:=Tryz.underlying4
 a4:=Tryz.isAgg4
 z4:=Tryz.sizeOf4
 v4:=Tryz.zeroValue4
 t5:=Tryz.underlying5
 a5:=Tryz.isAgg5
 z5:=Tryz.sizeOf5
 v5:=Tryz.zeroValue5
 t9:=Tryz.underlying9
 a9:=Tryz.isAgg9
 z9:=Tryz.sizeOf9
 v9:=Tryz.zeroValue9
 t20:=Tryz.underlying20
 a20:=Tryz.isAgg20
 z20:=Tryz.sizeOf20
 v20:=Tryz.zeroValue20
 t37:=Tryz.underlying22
 a37:=Tryz.isAgg22
 z37:=Tryz.sizeOf22
 v37:=Tryz.zeroValue22
 t46:=Tryz.underlying98
 a46:=Tryz.isAgg98
 z46:=Tryz.sizeOf98
 v46:=Tryz.zeroValue98
 t51:=Tryz.underlying24
 a51:=Tryz.isAgg24
 z51:=Tryz.sizeOf24
 v51:=Tryz.zeroValue24
 t53:=Tryz.underlying68
 a53:=Tryz.isAgg68
 z53:=Tryz.sizeOf68
 v53:=Tryz.zeroValue68
 t171:=Tryz.underlying303
 a171:=Tryz.isAgg303
 z171:=Tryz.sizeOf303
 v171:=Tryz.zeroValue303
 t173:=Tryz.underlying305
 a173:=Tryz.isAgg305
 z173:=Tryz.sizeOf305
 v173:=Tryz.zeroValue305
 t212:=Tryz.underlying359
 a212:=Tryz.isAgg359
 z212:=Tryz.sizeOf359
 v212:=Tryz.zeroValue359
 t213:=Tryz.underlying360
 a213:=Tryz.isAgg360
 z213:=Tryz.sizeOf360
 t232:=Tryz.underlying391
 a232:=Tryz.isAgg391
 z232:=Tryz.sizeOf391
 v232:=Tryz.zeroValue391
 t233:=Tryz.underlying392
 a233:=Tryz.isAgg392
 z233:=Tryz.sizeOf392
 v233:=Tryz.zeroValue392
 g17:=by kernel_rfl
 g18:=by kernel_rfl
 g19:=by kernel_rfl
 i0:=by kernel_rfl
 i2:=by kernel_rfl
 i3:=by kernel_rfl
 i4:=by kernel_rfl
 i5:=by kernel_rfl
 i9:=by kernel_rfl
 i20:=by kernel_rfl
 i37:=by kernel_rfl
 i46:=by kernel_rfl
 i51:=by kernel_rfl
 i53:=by kernel_rfl
 i171:=by kernel_rfl
 i173:=by kernel_rfl
 i212:=by kernel_rfl
 i232:=by kernel_rfl
 i233:=by kernel_rfl
 m17:=by kernel_rfl
 m18:=by kernel_rfl
 m19:=by kernel_rfl}
open Go.RowKit Go.Sort Go.Lib in
theorem Tryz.strconv_FormatInt_10 (n:Int) (h0: -9223372036854775808≤n) (h1:n≤9223372036854775807) (w:World) (htab:Lib.TabIs Tryz.prog w "internal/strconv.uint64pow10" .u64 Lib.pow10Tab):
  Calls Tryz.prog 101 #[.int .i64 n,.int .i64 10] w fun e w'=>e= .returned (.string ⟨(Lib.itoa n).toArray⟩)∧∃k os,w'=grow (w.drewN k) os:=Any.strconv_FormatInt_10 Tryz.laysM173 n h0 h1 w htab
end Go.Proofs
set_option maxRecDepth 100000
namespace Go.Vc
open Go Go.Proofs Go.Plain Go.RowKit
open Go.Lib (decDigits nDigits)
theorem Wu:qO Tryz.prog Bu=some 2:=by kernel_rfl
theorem Vq:Tryz.prog.globalNamed Bu=some 2:=by kernel_rfl
theorem pow_eq:XO=Lib.pow10Tab:=by decide+kernel
theorem aj5 {w:World} (h:KW Tryz.prog w):Lib.TabIs Tryz.prog w "internal/strconv.uint64pow10" .u64 Lib.pow10Tab:=by
 obtain ⟨t,fz,e⟩:=h.2 _ Wu;unfold Lib.TabIs World.var?;have e2:Tryz.prog.globalNamed "internal/strconv.uint64pow10" =some 2:=Vq;rw[e2];simp only[Option.bind_some,e,pow_eq]
abbrev abB:FuncId:=101
theorem H9 (n:Int) (h0:0≤n) (h1:n<9223372036854775808):PC Tryz.prog abB [(I64,.int n),(I64,.int 10)] [(.str,.str (eH n))]:=by
 refine PC.sQ (by decide) ⟨⟨_,Tryz.func101,by kernel_rfl,by kernel_rfl⟩,fun w N vs aN hrd=>?_⟩;obtain ⟨v,r,rfl,⟨us,hu,rfl⟩,v2,r2,rfl,⟨Dm,hu2,rfl⟩,hr⟩:=hrd;simp only[bZ] at hr;subst hr;simp only[Rd] at hu hu2;subst hu hu2;have hc:=Tryz.strconv_FormatInt_10 n (by omega) (by omega) w (aj5 aN);have e:Lib.itoa n=eH n:=by unfold Lib.itoa eH;rw[if_neg (by omega)]
 rw[e] at hc;refine hc.mono fun e w' ⟨he,k,os,hb⟩=>⟨_,he,⟨[.string ⟨(eH n).toArray⟩],⟨_,_,rfl,⟨_,rfl,rfl⟩,rfl⟩,?_⟩,?_⟩
 ·simp
 ·rw[hb];exact ⟨rfl,rfl,rfl,by show w.heap.size≤(w.heap++os).size;rw[Array.size_append];omega,fun j hj=>Sort.heap_grow_old (w.drewN k) os hj⟩
theorem yP (n:Int) (h0:0≤n) (h1:n<9223372036854775808):PC Tryz.prog OX [(I64,.int n)] [(.str,.str (eH n))]:=by
 apply aby rfl;simp only[OT,aF,aC,aB,au,aD,forall_const];exact ⟨_,H9 n h0 h1,rfl⟩
theorem ae9 (n:Int) (h0:0≤n) (h1:n<65536):PC Tryz.prog Oo [(.int .u16,.int n)] [(.str,.str (eH n))]:=by
 apply aa2 rfl;simp only[Nn,aF,aC,aB,au,aD,forall_const,JO];have e:(n+9223372036854775808)%18446744073709551616-9223372036854775808=n:=by omega
 first|rw[e]|skip
 exact ⟨_,H9 n h0 (by omega),rfl⟩
theorem Sq (n:Int) (h0:0≤n) (h1:n<4294967296):PC Tryz.prog Om [(.int .u32,.int n)] [(.str,.str (eH n))]:=by
 apply aa1 rfl;simp only[Nl,aF,aC,aB,au,aD,forall_const,JO];have e:(n+9223372036854775808)%18446744073709551616-9223372036854775808=n:=by omega
 first|rw[e]|skip
 exact ⟨_,H9 n h0 (by omega),rfl⟩
theorem UQ (s:List UInt8) (hs:s.length≤1000000):PC Tryz.prog Rs [(aV,.ls (ofBytes s))] [(.str,.str (qs s))]:=by
 apply acY rfl;simp only[Qf,aF,aC,aB,au,aD,forall_const,yx];exact ⟨_,WH s hs,rfl⟩
theorem Kc:∀ws:List (List UInt8),Lib.join ws [32]=gZ ws
 | []=>rfl
 | [w]=>by rw[Lib.join_one];rfl
 |w::v::r=>by
  have ih:=Kc (v::r);rw[Lib.join_cons] at ih ⊢;rw[show gZ (w::v::r)=w++32::gZ (v::r) from rfl,←ih];simp[Lib.joinTail]
abbrev adz:FuncId:=56
theorem ai0 (ws:List (List UInt8)) (h1:ws.length≤1000000000) (h2:(gZ ws).length≤140737488355328):PC Tryz.prog adz [(.sl .str,.ls (ws.map .str)),(.str,.str [32])] [(.str,.str (gZ ws))]:=by
 refine PC.sQ (by decide) ⟨⟨_,Tryz.func56,by kernel_rfl,by kernel_rfl⟩,fun w N vs aN hrd=>?_⟩;obtain ⟨v,r,rfl,⟨us,hu,rfl⟩,v2,r2,rfl,⟨Dm,hu2,rfl⟩,hr⟩:=hrd;simp only[bZ] at hr;subst hr;simp only[Rd,C.lQ,List.length_map] at hu hu2;subst hu2;obtain ⟨a,cap,rfl,hcap,hmx,hrow⟩:=hu;have fin:∀w',Below w.heap.size w w'→∀e:Ending,e= .returned (.string ⟨(gZ ws).toArray⟩)→∃v,e= .returned v∧F8 w' (fun b=>N b∨w.heap.size≤b) [(.str,.str (gZ ws))] v∧Below w.heap.size w w':=fun w' hb e he=>⟨_,he,⟨[.string ⟨(gZ ws).toArray⟩],⟨_,_,rfl,⟨_,rfl,rfl⟩,rfl⟩,by simp⟩,hb⟩;by_cases hw:ws=[]
 ·subst hw;refine (Tryz.strings_Join_none a cap ⟨#[32]⟩ w).mono fun e w' ⟨he,hb⟩=>?_;rw[hb];exact fin w ⟨rfl,rfl,rfl,Nat.le_refl _,fun _ _=>rfl⟩ e he
 ·obtain ⟨b,off,rfl,hN,hlt,hat⟩:=hrow (by simpa using hw);have hc:=Tryz.strings_Join b off cap (ws.map fun x=>⟨x.toArray⟩) ⟨#[32]⟩ w (fun j x hx=>?_) hlt (by rw[List.length_map];omega) (by rw[List.length_map];exact hcap) ?_
  ·rw[List.length_map] at hc;have e:(ws.map fun x=>(⟨x.toArray⟩:ByteArray)).map (·.data.toList)=ws:=by rw[List.map_map];exact List.map_id'' (fun _=>rfl) ws
   rw[e] at hc;refine hc.mono fun e w' ⟨he,hb⟩=>fin w' hb e ?_;rw[he,show (⟨#[32]⟩:ByteArray).data.toList=[32] from rfl,Kc]
  ·rw[List.getElem?_map] at hx;obtain ⟨y,hy,rfl⟩:=Option.map_eq_some_iff.1 hx;obtain ⟨us,hl,hcs,hr⟩:=hat j (.str y) (by rw[List.getElem?_map,hy];rfl);change us=[.string ⟨y.toArray⟩] at hr
   subst hr;have h3:=hcs 0 (.string ⟨y.toArray⟩) rfl;have e3:off+j*Sh.size .str+0=off+j:=by simp[Sh.size]
   rw[e3] at h3;exact h3
  ·have e:(ws.map fun x=>(⟨x.toArray⟩:ByteArray)).map (·.data.toList)=ws:=by rw[List.map_map];exact List.map_id'' (fun _=>rfl) ws
   rw[e,show (⟨#[32]⟩:ByteArray).data.toList=[32] from rfl,Kc];exact h2
end Go.Vc
set_option maxRecDepth 100000
namespace Go.Vc
open Go Go.Proofs Go.Plain
open Go.Lib (decDigits nDigits)
end Go.Vc
set_option maxRecDepth 100000
namespace Go.Vc
open Go Go.Proofs Go.Plain
open Go.Lib (decDigits nDigits)
abbrev dA:=List (List UInt8)
def iter (f:Pl→dA→Option (Pl×dA)):Nat→Pl→dA→Option Pl
 |0,p,ws=>if ws=[] then some p else none
 |k+1,p,ws=>if ws=[] then some p else match f p ws with|none=>none|some x=>iter f k x.1 x.2
theorem ah0 (f:Pl→dA→Option (Pl×dA)) (k:Nat) (p:Pl):iter f k p []=some p:=by cases k<;>rfl
theorem U1 {f:Pl→dA→Option (Pl×dA)} {k:Nat} {p q:Pl} {ws r:dA} (h:ws≠[]) (hf:f p ws=some (q,r)):iter f (k+1) p ws=iter f k q r:=by rw[iter,if_neg h,hf]
theorem ag5 {f:Pl→dA→Option (Pl×dA)} {k:Nat} {p:Pl} {ws:dA} (h:ws≠[]) (hf:f p ws=none):iter f (k+1) p ws=none:=by rw[iter,if_neg h,hf]
def Runs (f:Pl→dA→Option (Pl×dA)) (p:Pl) (ws:dA) (q:Pl) (r:dA):Prop:=∃n,r.length+n≤ws.length∧∀k,iter f (n+k) p ws=iter f k q r
theorem Runs.refl (f:Pl→dA→Option (Pl×dA)) (p:Pl) (ws:dA):Runs f p ws p ws:=⟨0,by omega,fun k=>by rw[Nat.zero_add]⟩
theorem Runs.trans {f:Pl→dA→Option (Pl×dA)} {p q s:Pl} {ws r t:dA} (h:Runs f p ws q r) (g:Runs f q r s t):Runs f p ws s t:=by
 obtain ⟨n,h1,h2⟩:=h;obtain ⟨m,g1,g2⟩:=g;exact ⟨n+m,by omega,fun k=>by rw[Nat.add_assoc,h2,g2]⟩
theorem Runs.step {f:Pl→dA→Option (Pl×dA)} {p q:Pl} {w:List UInt8} {ws r:dA} (hf:f p (w::ws)=some (q,r)) (hl:r.length≤ws.length):Runs f p (w::ws) q r:=
 ⟨1,by simp;omega,fun k=>by rw[Nat.add_comm];exact U1 (by simp) hf⟩
structure Good (f:Pl→dA→Option (Pl×dA)):Prop where
 marker:∀p (b:Bool) r,f p (uq::(if b then rE else qQ)::r)=some ({p with sm:=true,m:=b},r)
 type:∀p (n:Int) r,0≤n→n≤255→f p (uI::eH n::r)=some ({p with st:=true,ty:=n},r)
 seq:∀p (n:Int) r,0≤n→n<65536→f p (uW::eH n::r)=some ({p with sq:=true,seq:=n},r)
 time:∀p (n:Int) r,0≤n→n<4294967296→f p (uJ::eH n::r)=some ({p with aY:=true,time:=n},r)
 aH:∀p (n:Int) r,0≤n→n<4294967296→f p (uK::eH n::r)=some ({p with ss:=true,aH:=n},r)
 map:∀p (a b:Int) r,0≤a→a≤255→0≤b→b≤255→f p (pR::eH a::eH b::r)=some ({p with maps:=p.maps++ [⟨a,b⟩]},r)
 over:∀p (a:Int) d r,0≤a→a≤255→f p (nM::eH a::qs d::r)=some ({p with over:=p.over++ [⟨a,d⟩]},r)
 drop:∀p (a:Int) r,0≤a→a≤255→f p (pI::eH a::r)=some ({p with drops:=p.drops++ [a]},r)
 add:∀p (a:Int) d r,0≤a→a≤255→f p (nO::eH a::qs d::r)=some ({p with adds:=p.adds++ [⟨a,d⟩]},r)
 alS:∀p r,f p (uF::r)=some ({p with np:=true},r)
section
variable {f:Pl→dA→Option (Pl×dA)} (G:Good f)
include G
end
def uy (f:Pl→dA→Option (Pl×dA)) (s:List UInt8):Option Pl:=
 if s=[] then some Pl.zero else
  match kG s with
  |none=>none
  |some ws=>match iter f ws.length Pl.zero ws with
   |none=>none
   |some p=>if bR p∧oh p=s then some p else none
end Go.Vc
set_option maxRecDepth 100000
namespace Go.Vc
open Go Go.Proofs Go.Plain
open Go.Lib (decDigits nDigits)
def sI (p:Pl) (ws:dA):Option (Pl×dA):=if (lq p ws false).2.2 then none else some ((lq p ws false).1,(lq p ws false).2.1)
def lens (p:Pl):Nat:=p.maps.length+p.over.length+p.drops.length+p.adds.length
theorem WK (most:Nat) (w:List UInt8):(aU most w).1≤most:=wh most _ _ (Nat.zero_le _)
theorem Jd (p:Pl) (ws:dA) (wr:Bool) (Q:Pl×dA×Bool→Prop) 
  (h1:Q ({p with sm:=true,m:=decide (ws.tail.headD []=rE)},ws.tail.tail,(wr||ws.isEmpty||ws.tail.isEmpty)||(decide (ws.tail.headD []≠rE)&&decide (ws.tail.headD []≠qQ))))
  (h2:Q ({p with st:=true,ty:=(aU 255 (ws.tail.headD [])).1},ws.tail.tail,(wr||ws.isEmpty||ws.tail.isEmpty)||(aU 255 (ws.tail.headD [])).2))
  (h3:Q ({p with sq:=true,seq:=(aU 65535 (ws.tail.headD [])).1},ws.tail.tail,(wr||ws.isEmpty||ws.tail.isEmpty)||(aU 65535 (ws.tail.headD [])).2))
  (h4:Q ({p with aY:=true,time:=(aU 4294967295 (ws.tail.headD [])).1},ws.tail.tail,(wr||ws.isEmpty||ws.tail.isEmpty)||(aU 4294967295 (ws.tail.headD [])).2))
  (h5:Q ({p with ss:=true,aH:=(aU 4294967295 (ws.tail.headD [])).1},ws.tail.tail,(wr||ws.isEmpty||ws.tail.isEmpty)||(aU 4294967295 (ws.tail.headD [])).2))
  (h6:Q ({p with maps:=p.maps++ [⟨(aU 255 (ws.tail.headD [])).1,(aU 255 (ws.tail.tail.headD [])).1⟩]},ws.tail.tail.tail,(((wr||ws.isEmpty||ws.tail.isEmpty)||(aU 255 (ws.tail.headD [])).2)||ws.tail.tail.isEmpty)||(aU 255 (ws.tail.tail.headD [])).2))
  (h7:Q ({p with over:=p.over++ [⟨(aU 255 (ws.tail.headD [])).1,(iH (ws.tail.tail.headD [])).getD []⟩]},ws.tail.tail.tail,(((wr||ws.isEmpty||ws.tail.isEmpty)||(aU 255 (ws.tail.headD [])).2)||ws.tail.tail.isEmpty)|| !(iH (ws.tail.tail.headD [])).isSome))
  (h8:Q ({p with drops:=p.drops++ [((aU 255 (ws.tail.headD [])).1:Int)]},ws.tail.tail,(wr||ws.isEmpty||ws.tail.isEmpty)||(aU 255 (ws.tail.headD [])).2))
  (h9:Q ({p with adds:=p.adds++ [⟨(aU 255 (ws.tail.headD [])).1,(iH (ws.tail.tail.headD [])).getD []⟩]},ws.tail.tail.tail,(((wr||ws.isEmpty||ws.tail.isEmpty)||(aU 255 (ws.tail.headD [])).2)||ws.tail.tail.isEmpty)|| !(iH (ws.tail.tail.headD [])).isSome))
  (h10:Q ({p with np:=true},ws.tail,wr||ws.isEmpty))
  (h0:Q (p,ws.tail,true)):Q (lq p ws wr):=by
 unfold lq;dsimp only;by_cases c1:ws.headD []=uq
 ·rw[if_pos c1];exact h1
 rw[if_neg c1];by_cases c2:ws.headD []=uI
 ·rw[if_pos c2];exact h2
 rw[if_neg c2];by_cases c3:ws.headD []=uW
 ·rw[if_pos c3];exact h3
 rw[if_neg c3];by_cases c4:ws.headD []=uJ
 ·rw[if_pos c4];exact h4
 rw[if_neg c4];by_cases c5:ws.headD []=uK
 ·rw[if_pos c5];exact h5
 rw[if_neg c5];by_cases c6:ws.headD []=pR
 ·rw[if_pos c6];exact h6
 rw[if_neg c6];by_cases c7:ws.headD []=nM
 ·rw[if_pos c7];exact h7
 rw[if_neg c7];by_cases c8:ws.headD []=pI
 ·rw[if_pos c8];exact h8
 rw[if_neg c8];by_cases c9:ws.headD []=nO
 ·rw[if_pos c9];exact h9
 rw[if_neg c9];by_cases c10:ws.headD []=uF
 ·rw[if_pos c10];exact h10
 rw[if_neg c10];exact h0
theorem ajl (p:Pl) (ws:dA) (wr:Bool) (h:dO p):dO (lq p ws wr).1:=by
 obtain ⟨n1,n2,n3,n4,n5,n6⟩:=h;have a1:=WK 65535 (ws.tail.headD []);have a2:=WK 4294967295 (ws.tail.headD []);refine Jd p ws wr (fun G=>dO G.1) ?_ ?_ ?_ ?_ ?_ ?_ ?_ ?_ ?_ ?_ ?_;all_goals (unfold dO;(try simp only);omega)
theorem ah4 (p:Pl) (ws:dA) (wr:Bool) (h:ws≠[]):lens (lq p ws wr).1+(lq p ws wr).2.1.length≤lens p+ws.length∧(lq p ws wr).2.1.length<ws.length:=by
 have hl:0<ws.length:=List.length_pos_iff.2 h;by_cases h1:ws.length=1
 all_goals
  refine Jd p ws wr (fun G=>lens G.1+G.2.1.length≤lens p+ws.length∧G.2.1.length<ws.length) ?_ ?_ ?_ ?_ ?_ ?_ ?_ ?_ ?_ ?_ ?_;all_goals (unfold lens;(try simp only[List.length_append,List.length_singleton,List.length_tail]);omega)
theorem VQ (p:Pl) (ws:dA) (wr:Bool):(lq p ws wr).2.1=ws.tail∨(lq p ws wr).2.1=ws.tail.tail∨(lq p ws wr).2.1=ws.tail.tail.tail:=by
 refine Jd p ws wr (fun G=>G.2.1=ws.tail∨G.2.1=ws.tail.tail∨G.2.1=ws.tail.tail.tail) ?_ ?_ ?_ ?_ ?_ ?_ ?_ ?_ ?_ ?_ ?_;all_goals simp
theorem ajm (p:Pl) (ws:dA) (wr:Bool):∀w∈(lq p ws wr).2.1,w∈ws:=by
 intro w hw;rcases VQ p ws wr with h|h|h<;>rw[h] at hw
 ·exact List.mem_of_mem_tail hw
 ·exact List.mem_of_mem_tail (List.mem_of_mem_tail hw)
 ·exact List.mem_of_mem_tail (List.mem_of_mem_tail (List.mem_of_mem_tail hw))
end Go.Vc
set_option maxRecDepth 100000
namespace Go.Vc
open Go Go.Proofs Go.Plain
open Go.Lib (decDigits nDigits)
theorem aiV (l:List UInt8):(qs l).length≤3*l.length+2:=by
 have key:((chunks l).flatMap qc).length≤3*l.length:=by
  induction l using FM with
  |nil=>rw[yK];simp
  |step l hne ih=>
   rw[vX hne,List.flatMap_cons,List.length_append];have h2:=zi hne;have hp:=vZ l;have h1:(qc (l.take (bf l))).length≤3*bf l:=by
    rcases Vx hne with ⟨_,r2,_,r4⟩|⟨_,r2,r4⟩|⟨_,_,r4⟩
    ·rw[r4,r2];simp
    ·rw[r4,r2];simp
    ·rw[r4,List.length_take];omega
   rw[List.length_drop] at ih;omega
 unfold qs;simp only[List.length_cons,List.length_append,List.length_nil];omega
theorem nE (w:List UInt8) (r:dA):(gL (w::r)).length=w.length+1+(gL r).length:=by
 unfold gL;simp only[List.flatMap_cons,List.length_append,List.length_cons]
theorem Bw:(gL ([]:dA)).length=0:=rfl
theorem uf {n:Int} (h:n<4294967296):(eH n).length≤10:=(aju (by omega)).2
theorem wS:uq.length=6∧rE.length=2∧qQ.length=3∧uI.length=4∧uW.length=3∧uJ.length=4∧uK.length=4∧pR.length=3∧nM.length=4∧pI.length=4∧nO.length=3∧uF.length=5:=by decide
theorem fl1 (p:Pl):(gL (tk1 p)).length≤11:=by
 obtain ⟨k1,k2,k3,_⟩:=wS;unfold tk1;split
 ·split<;>simp only[nE,Bw]<;>omega
 ·exact by simp[gL]
theorem fl2 (p:Pl) (h:p.ty<4294967296):(gL (tk2 p)).length≤16:=by
 have:=uf h;have:=wS;unfold tk2;split
 ·simp only[nE,Bw];omega
 ·exact by simp[gL]
theorem fl3 (p:Pl) (h:p.seq<4294967296):(gL (tk3 p)).length≤16:=by
 have:=uf h;have:=wS;unfold tk3;split
 ·simp only[nE,Bw];omega
 ·exact by simp[gL]
theorem fl4 (p:Pl) (h:p.time<4294967296):(gL (tk4 p)).length≤16:=by
 have:=uf h;have:=wS;unfold tk4;split
 ·simp only[nE,Bw];omega
 ·exact by simp[gL]
theorem fl5 (p:Pl) (h:p.aH<4294967296):(gL (sP p)).length≤16:=by
 have:=uf h;have:=wS;unfold sP;split
 ·simp only[nE,Bw];omega
 ·exact by simp[gL]
theorem flM:∀(l:List Mp),(∀m∈l,1≤m.fr∧m.fr≤255∧1≤m.to∧m.to≤255)→(gL (nU l)).length≤26*l.length
 | [],_=>Nat.le_refl _
 |m::l,h=>by
  obtain ⟨h1,h2,h3,h4⟩:=h m (by simp);have:=uf (n:=m.fr) (by omega);have:=uf (n:=m.to) (by omega);have:=wS;have ih:=flM l (fun m hm=>h m (by simp[hm]));rw[show nU (m::l)=pR::eH m.fr::eH m.to::nU l from rfl,nE,nE,nE,List.length_cons];omega
theorem Ml (w:List UInt8) (hw:w.length≤4):∀(l:List El),(∀e∈l,1≤e.id∧e.id≤255∧e.data.length≤255)→(gL (kL w l)).length≤800*l.length
 | [],_=>Nat.le_refl _
 |m::l,h=>by
  obtain ⟨h1,h2,h3⟩:=h m (by simp);have:=uf (n:=m.id) (by omega);have:=aiV m.data;have ih:=Ml w hw l (fun m hm=>h m (by simp[hm]));rw[show kL w (m::l)=w::eH m.id::qs m.data::kL w l from rfl,nE,nE,nE,List.length_cons];omega
theorem flD:∀(l:List Int),(∀d∈l,1≤d∧d≤255)→(gL (nV l)).length≤26*l.length
 | [],_=>Nat.le_refl _
 |m::l,h=>by
  obtain ⟨h1,h2⟩:=h m (by simp);have:=uf (n:=m) (by omega);have:=wS;have ih:=flD l (fun m hm=>h m (by simp[hm]));rw[show nV (m::l)=pI::eH m::nV l from rfl,nE,nE,List.length_cons];omega
theorem flN (p:Pl):(gL (sO p)).length≤6:=by
 unfold sO;split
 ·exact by decide
 ·exact by simp[gL]
theorem ajp (p:Pl) (hp:bR p) (hn:dO p):(gL (toks p)).length≤100+26*p.maps.length+800*p.over.length+26*p.drops.length+800*p.adds.length:=by
 obtain ⟨⟨_,_,_,_,_,t0,t1⟩,r1,r2,r3,r4,r5,_⟩:=hp;obtain ⟨n1,n2,n3,n4,n5,n6⟩:=hn;have a1:=fl1 p;have a2:=fl2 p (by omega);have a3:=fl3 p (by omega);have a4:=fl4 p (by omega);have a5:=fl5 p (by omega);have a6:=flM p.maps fun m hm=>by
  have a1:=oq r1 m.fr (List.mem_map.2 ⟨m,hm,rfl⟩);have a2:=oq r2 m.to (List.mem_map.2 ⟨m,hm,rfl⟩);exact ⟨a1.1,a1.2,a2.1,a2.2⟩
 have a7:=Ml nM (by decide) p.over (FQ r4);have a8:=flD p.drops (oq r3);have a9:=Ml nO (by decide) p.adds (FQ r5);have a10:=flN p;unfold toks;simp only[ag6,List.length_append];omega
theorem ahE (p:Pl) (hp:bR p) (hn:dO p):(oh p).length≤100+26*p.maps.length+800*p.over.length+26*p.drops.length+800*p.adds.length:=by
 have:=ajp p hp hn;unfold oh;rw[←agk,List.length_drop];omega
theorem ahr {l:List Mp} {i:Nat} (hi:i<l.length):nU (l.take (i+1))=nU (l.take i)++ [pR,eH (l.getD i Mp.zero).fr,eH (l.getD i Mp.zero).to]:=by
 have e:l.getD i Mp.zero=l[i]:=by simp[List.getD,hi]
 rw[e,List.take_succ_eq_append_getElem hi];unfold nU;rw[List.flatMap_append];rfl
theorem Vo {w:List UInt8} {l:List El} {i:Nat} (hi:i<l.length):kL w (l.take (i+1))=kL w (l.take i)++ [w,eH (l.getD i El.zero).id,qs (l.getD i El.zero).data]:=by
 have e:l.getD i El.zero=l[i]:=by simp[List.getD,hi]
 rw[e,List.take_succ_eq_append_getElem hi];unfold kL;rw[List.flatMap_append];rfl
theorem ahs {l:List Int} {i:Nat} (hi:i<l.length):nV (l.take (i+1))=nV (l.take i)++ [pI,eH (l.getD i 0)]:=by
 have e:l.getD i 0=l[i]:=by simp[List.getD,hi]
 rw[e,List.take_succ_eq_append_getElem hi];unfold nV;rw[List.flatMap_append];rfl
theorem Ws:∀l:List Mp,(nU l).length=3*l.length
 | []=>rfl
 |m::l=>by rw[show nU (m::l)=pR::eH m.fr::eH m.to::nU l from rfl,List.length_cons,List.length_cons,List.length_cons,Ws l,List.length_cons];omega
theorem JR (w:List UInt8):∀l:List El,(kL w l).length=3*l.length
 | []=>rfl
 |m::l=>by rw[show kL w (m::l)=w::eH m.id::qs m.data::kL w l from rfl,List.length_cons,List.length_cons,List.length_cons,JR w l,List.length_cons];omega
theorem Wt:∀l:List Int,(nV l).length=2*l.length
 | []=>rfl
 |m::l=>by rw[show nV (m::l)=pI::eH m::nV l from rfl,List.length_cons,List.length_cons,Wt l,List.length_cons];omega
theorem aiA (p:Pl):(tk1 p).length≤2∧(tk2 p).length≤2∧(tk3 p).length≤2∧(tk4 p).length≤2∧(sP p).length≤2∧(sO p).length≤1:=by
 unfold tk1 tk2 tk3 tk4 sP sO;refine ⟨?_,?_,?_,?_,?_,?_⟩<;>split<;>simp
theorem aev (p:Pl) (hf:fq p) (hn:dO p):PC Tryz.prog SC [(cu,cK p)] [(.str,.str (if bR p then oh p else [])),(I64,.int (if bR p then 0 else 1))]:=by
 have hf0:=hf;obtain ⟨e1,e2,e3,e4⟩:=hf;have hn0:=hn;obtain ⟨n1,n2,n3,n4,n5,n6⟩:=hn;obtain ⟨l1,l2,l3,l4,l5,lN⟩:=aiA p;apply adH rfl;simp only[QT,aF,aC,aB,au,aD,forall_const,List.length_map];refine ⟨_,Qz p hf0,fun h=>?_,fun h=>?_⟩
 ·have hr:¬bR p:=by simpa using h
  rw[if_neg hr,if_neg hr]
 have hp:bR p:=by simpa using h
 have hp0:=hp;rw[if_pos hp,if_pos hp];obtain ⟨⟨_,_,_,_,_,t0,t1⟩,r1,r2,r3,r4,r5,_⟩:=hp;refine VC.go_meet [.ls ((tk1 p).map .str)] ?_ ?_
 ·simp only[aF,aC,aB,au,aD,forall_const,List.length_map];refine ⟨fun hb=>⟨by simp only[List.length_cons,List.length_nil];omega,?_⟩,fun hb=>⟨fun hc=>⟨by simp only[List.length_cons,List.length_nil];omega,?_⟩,fun hc=>?_⟩⟩
  ·unfold tk1;rw[if_pos hb.1,if_pos hb.2];rfl
  ·unfold tk1;rw[if_pos hc,if_neg (by rcases hb with hb|hb;exact absurd hc hb;simp[hb])];rfl
  ·unfold tk1;rw[if_neg (by simp[hc])];rfl
 refine VC.go_meet [.ls ((tk1 p++tk2 p).map .str)] ?_ ?_
 ·simp only[aF,aC,aB,au,aD,forall_const,List.length_map];refine ⟨fun hb=>⟨_,yP p.ty t0 (by omega),by simp only[List.length_cons,List.length_nil,List.length_append];omega,?_⟩,fun hb=>?_⟩
  ·unfold tk2;rw[if_pos hb];simp only[List.map_append,List.append_assoc];rfl
  ·unfold tk2;rw[if_neg (by simp[hb]),List.append_nil]
 refine VC.go_meet [.ls ((tk1 p++tk2 p++tk3 p).map .str)] ?_ ?_
 ·simp only[aF,aC,aB,au,aD,forall_const,List.length_map];refine ⟨fun hb=>⟨_,ae9 p.seq n1 n2,by simp only[List.length_cons,List.length_nil,List.length_append];omega,?_⟩,fun hb=>?_⟩
  ·unfold tk3;rw[if_pos hb];simp only[List.map_append,List.append_assoc];rfl
  ·unfold tk3;rw[if_neg (by simp[hb]),List.append_nil]
 refine VC.go_meet [.ls ((tk1 p++tk2 p++tk3 p++tk4 p).map .str)] ?_ ?_
 ·simp only[aF,aC,aB,au,aD,forall_const,List.length_map];refine ⟨fun hb=>⟨_,Sq p.time n3 n4,by simp only[List.length_cons,List.length_nil,List.length_append];omega,?_⟩,fun hb=>?_⟩
  ·unfold tk4;rw[if_pos hb];simp only[List.map_append,List.append_assoc];rfl
  ·unfold tk4;rw[if_neg (by simp[hb]),List.append_nil]
 refine VC.go_meet [.ls ((tk1 p++tk2 p++tk3 p++tk4 p++sP p).map .str)] ?_ ?_
 ·simp only[aF,aC,aB,au,aD,forall_const,List.length_map];refine ⟨fun hb=>⟨_,Sq p.aH n5 n6,by simp only[List.length_cons,List.length_nil,List.length_append];omega,?_⟩,fun hb=>?_⟩
  ·unfold sP;rw[if_pos hb];simp only[List.map_append,List.append_assoc];rfl
  ·unfold sP;rw[if_neg (by simp[hb]),List.append_nil]
 obtain ⟨T,hT⟩:∃T,tk1 p++tk2 p++tk3 p++tk4 p++sP p=T:=⟨_,rfl⟩;have lT:T.length≤10:=by rw[←hT];simp only[List.length_append];omega
 rw[hT];have hm:∀m∈p.maps,1≤m.fr∧m.fr≤255∧1≤m.to∧m.to≤255:=fun m hm=>by
  have a1:=oq r1 m.fr (List.mem_map.2 ⟨m,hm,rfl⟩);have a2:=oq r2 m.to (List.mem_map.2 ⟨m,hm,rfl⟩);exact ⟨a1.1,a1.2,a2.1,a2.2⟩
 have ho:=FQ r4;have ha:=FQ r5;have hd:=oq r3;refine VC.go_loop (fun i:Nat=> [.ls ((T++nU (p.maps.take i)).map .str),.int (i:Int)]) (fun i=>i≤p.maps.length) (fun i=>p.maps.length-i) 0 (by rw[List.take_zero,show nU []=[] from rfl,List.append_nil];rfl) (Nat.zero_le _) fun i hi=>?_;have lL:=Ws (p.maps.take i);rw[List.length_take] at lL;simp only[aF,aC,aB,au,aD,forall_const,List.length_map,List.length_append];refine ⟨fun hc=>?_,fun hc=>?_⟩
 ·have hk:i<p.maps.length:=by omega
  have hm:=hm _ (List.getElem_mem hk);have e:p.maps.getD i Mp.zero=p.maps[i]:=by simp[List.getD,hk]
  rw[Int.toNat_natCast,qF p.maps i hk,e];refine ⟨by omega,by omega,_,yP p.maps[i].fr (by omega) (by omega),_,yP p.maps[i].to (by omega) (by omega),by simp only[List.length_cons,List.length_nil];omega,by omega,i+1,?_,by omega,by omega⟩;rw[ahr hk,e];simp only[List.map_append,List.append_assoc];rfl
 obtain rfl:i=p.maps.length:=by omega
 rw[List.take_length] at lL ⊢;obtain ⟨T2,Md⟩:∃T2,T++nU p.maps=T2:=⟨_,rfl⟩;have lT2:T2.length≤3000010:=by rw[←Md];simp only[List.length_append];omega
 simp only[←List.map_append,Md];refine VC.go_loop (fun i:Nat=> [.ls ((T2++kL nM (p.over.take i)).map .str),.int (i:Int)]) (fun i=>i≤p.over.length) (fun i=>p.over.length-i) 0 (by rw[List.take_zero,show kL nM []=[] from rfl,List.append_nil];rfl) (Nat.zero_le _) fun i hi=>?_;have lL:=JR nM (p.over.take i);rw[List.length_take] at lL;simp only[aF,aC,aB,au,aD,forall_const,List.length_map,List.length_append];refine ⟨fun hc=>?_,fun hc=>?_⟩
 ·have hk:i<p.over.length:=by omega
  have hm:=ho _ (List.getElem_mem hk);have e:p.over.getD i El.zero=p.over[i]:=by simp[List.getD,hk]
  rw[kF p.over i hk,e];simp only[eT,gQ,dY,bL,yx];refine ⟨by omega,by omega,_,yP p.over[i].id (by omega) (by omega),_,UQ p.over[i].data (by omega),by simp only[List.length_cons,List.length_nil];omega,by omega,i+1,?_,by omega,by omega⟩;rw[Vo hk,e];simp only[List.map_append,List.append_assoc];rfl
 obtain rfl:i=p.over.length:=by omega
 rw[List.take_length] at lL ⊢;obtain ⟨T3,Mc⟩:∃T3,T2++kL nM p.over=T3:=⟨_,rfl⟩;have lT3:T3.length≤6000010:=by rw[←Mc];simp only[List.length_append];omega
 simp only[←List.map_append,Mc];refine VC.go_loop (fun i:Nat=> [.ls ((T3++nV (p.drops.take i)).map .str),.int (i:Int)]) (fun i=>i≤p.drops.length) (fun i=>p.drops.length-i) 0 (by rw[List.take_zero,show nV []=[] from rfl,List.append_nil];rfl) (Nat.zero_le _) fun i hi=>?_;have lL:=Wt (p.drops.take i);rw[List.length_take] at lL;simp only[aF,aC,aB,au,aD,forall_const,List.length_map,List.length_append];refine ⟨fun hc=>?_,fun hc=>?_⟩
 ·have hk:i<p.drops.length:=by omega
  have hm:=hd _ (List.getElem_mem hk);have e:p.drops.getD i 0=p.drops[i]:=by simp[List.getD,hk]
  rw[Int.toNat_natCast,y7 p.drops i hk,e];refine ⟨by omega,by omega,_,yP p.drops[i] (by omega) (by omega),by simp only[List.length_cons,List.length_nil];omega,by omega,i+1,?_,by omega,by omega⟩;rw[ahs hk,e];simp only[List.map_append,List.append_assoc];rfl
 obtain rfl:i=p.drops.length:=by omega
 rw[List.take_length] at lL ⊢;obtain ⟨T4,Ma⟩:∃T4,T3++nV p.drops=T4:=⟨_,rfl⟩;have lT4:T4.length≤8000010:=by rw[←Ma];simp only[List.length_append];omega
 simp only[←List.map_append,Ma];refine VC.go_loop (fun i:Nat=> [.ls ((T4++kL nO (p.adds.take i)).map .str),.int (i:Int)]) (fun i=>i≤p.adds.length) (fun i=>p.adds.length-i) 0 (by rw[List.take_zero,show kL nO []=[] from rfl,List.append_nil];rfl) (Nat.zero_le _) fun i hi=>?_;have lL:=JR nO (p.adds.take i);rw[List.length_take] at lL;simp only[aF,aC,aB,au,aD,forall_const,List.length_map,List.length_append];refine ⟨fun hc=>?_,fun hc=>?_⟩
 ·have hk:i<p.adds.length:=by omega
  have hm:=ha _ (List.getElem_mem hk);have e:p.adds.getD i El.zero=p.adds[i]:=by simp[List.getD,hk]
  rw[kF p.adds i hk,e];simp only[eT,gQ,dY,bL,yx];refine ⟨by omega,by omega,_,yP p.adds[i].id (by omega) (by omega),_,UQ p.adds[i].data (by omega),by simp only[List.length_cons,List.length_nil];omega,by omega,i+1,?_,by omega,by omega⟩;rw[Vo hk,e];simp only[List.map_append,List.append_assoc];rfl
 obtain rfl:i=p.adds.length:=by omega
 rw[List.take_length] at lL ⊢;obtain ⟨T5,L9⟩:∃T5,T4++kL nO p.adds=T5:=⟨_,rfl⟩;have lT5:T5.length≤11000010:=by rw[←L9];simp only[List.length_append];omega
 simp only[←List.map_append,L9];have hall:T5++sO p=toks p:=by
  rw[←L9,←Ma,←Mc,←Md,←hT];unfold toks;simp only[List.append_assoc]
 refine VC.go_meet [.ls ((T5++sO p).map .str)] ?_ ?_
 ·simp only[aF,aC,aB,au,aD,forall_const,List.length_map];refine ⟨fun hb=>⟨by simp only[List.length_cons,List.length_nil];omega,?_⟩,fun hb=>?_⟩
  ·unfold sO;rw[if_pos hb];simp only[List.map_append,List.append_assoc];rfl
  ·unfold sO;rw[if_neg (by simp[hb]),List.append_nil]
 rw[hall];simp only[aF,aC,aB,au,aD,forall_const];have hpl:=ahE p hp0 hn0;refine ⟨_,ai0 (toks p) (by rw[←hall];simp only[List.length_append];omega) (by change (oh p).length≤_;omega),rfl⟩
end Go.Vc
set_option maxRecDepth 100000
namespace Go.Vc
open Go Go.Proofs Go.RowKit Go.Plain
theorem TL {W:World} {N:Nat→Prop}:∀l:List Mp,bq W N ni (qG l) (l.map jR)
 | []=>rfl
 |m::l=>⟨[.int .i64 m.fr,.int .i64 m.to],qG l,rfl,⟨rfl,[.int .i64 m.fr],[.int .i64 m.to],rfl,rfl,rfl,[.int .i64 m.to],[],rfl,rfl,rfl⟩,TL l⟩
theorem TM {W:World} {N:Nat→Prop}:∀l:List Int,bq W N I64 (l.map (Value.int .i64 ·)) (l.map .int)
 | []=>rfl
 |m::l=>⟨[.int .i64 m],l.map (Value.int .i64 ·),rfl,rfl,TM l⟩
theorem FZ {W:World} {lo:Nat} {e:TypeId} {size:Nat} {v:Value} {n:Nat} {xs:List Value} (h:W.ownsRow lo e size v n xs):W.gN (fun g=>lo≤g) e size v n xs:=h
theorem Fb {W:World} {lo:Nat} {e:TypeId} {size:Nat} {v:Value} {n:Nat} {xs:List Value} (h:W.ownsRow lo e size v n xs):∀g,bD v=some g→lo≤g:=by
 intro g hg;rcases h.2 with ⟨h0,_⟩|⟨g',cap,cur,h1,h2,_⟩
 ·rw[h0] at hg;cases hg
 ·rw[h1] at hg;simp only[bD,Option.some.injEq] at hg;omega
theorem Fa {W:World} {lo:Nat} {e:TypeId} {size:Nat} {v:Value} {n:Nat} {xs:List Value} (h:W.ownsRow lo e size v n xs):∃a l c,v= .slice a l c:=by
 rcases h.2 with ⟨h0,_⟩|⟨g',cap,cur,h1,h2,_⟩
 ·exact ⟨_,_,_,h0⟩
 ·exact ⟨_,_,_,h1⟩
theorem aiU {W:World} {lo pb rb:Nat} {p:Pl} (h:iD W lo pb rb p):∃vm vo vd va,W.heap[pb]?=some (.cells (gI p vm vo vd va) 29 (0,0))∧Rd W (fun b=>lo≤b) cu (gI p vm vo vd va).toList (cK p)∧(∃a l c,vm= .slice a l c)∧(∃a l c,vo= .slice a l c)∧(∃a l c,vd= .slice a l c)∧(∃a l c,va= .slice a l c):=by
 obtain ⟨vm,vo,vd,va,xo,xa,h1,h2,h3,h4,o1,o2,o3,o4,r1,r2,d,n1,n2,n3,n4⟩:=h;refine ⟨vm,vo,vd,va,h1,?_,Fa o1,Fa o2,Fa o3,Fa o4⟩;have a1:Rd W (fun b=>lo≤b) (.sl ni) [vm] (oV p.maps):=zC (xs:=qG p.maps) (et:=127) (B:=fun g=>lo≤g) (by rw[show (oV p.maps).toList.length=p.maps.length by simp[oV]];exact FZ o1) (TL p.maps) (Fb o1);have a2:Rd W (fun b=>lo≤b) (.sl gM) [vo] (dV p.over):=zC (xs:=xo) (et:=103) (B:=fun g=>lo≤g) (by rw[show (dV p.over).toList.length=p.over.length by simp[dV]];exact FZ o2) (r1.mono (Nat.le_refl _) fun b hb _=>⟨rfl,hb.1⟩) (Fb o2);have a3:Rd W (fun b=>lo≤b) (.sl I64) [vd] (Ints p.drops):=zC (xs:=p.drops.map (Value.int .i64 ·)) (et:=3) (B:=fun g=>lo≤g) (by rw[show (Ints p.drops).toList.length=p.drops.length by simp[Ints]];exact FZ o3) (TM p.drops) (Fb o3);have a4:Rd W (fun b=>lo≤b) (.sl gM) [va] (dV p.adds):=zC (xs:=xa) (et:=103) (B:=fun g=>lo≤g) (by rw[show (dV p.adds).toList.length=p.adds.length by simp[dV]];exact FZ o4) (r2.mono (Nat.le_refl _) fun b hb _=>⟨rfl,hb.1⟩) (Fb o4);exact ⟨rfl,[_],_,rfl,rfl,rfl,[_],_,rfl,rfl,rfl,[_],_,rfl,rfl,rfl,[_],_,rfl,rfl,rfl,[_],_,rfl,rfl,rfl,[_],_,rfl,rfl,rfl,[_],_,rfl,rfl,rfl,[_],_,rfl,rfl,rfl,[_],_,rfl,rfl,rfl,[_],_,rfl,rfl,
  rfl,[vm],_,rfl,a1,rfl,[vo],_,rfl,a2,rfl,[vd],_,rfl,a3,rfl,[va],_,rfl,a4,rfl,[_],[],rfl,rfl,rfl⟩
abbrev zeroCells:Array Value:=gI Pl.zero (.slice none 0 0) (.slice none 0 0) (.slice none 0 0) (.slice none 0 0)
theorem zk (W:World) (N:Nat→Prop):Rd W N cu zeroCells.toList (cK Pl.zero):=by
 have a:∀s,Rd W N (.sl s) [.slice none 0 0] (.ls []):=fun s=>⟨none,0,rfl,Nat.le_refl _,Nat.zero_le _,fun h=>absurd rfl h⟩;exact ⟨rfl,[_],_,rfl,rfl,rfl,[_],_,rfl,rfl,rfl,[_],_,rfl,rfl,rfl,[_],_,rfl,rfl,rfl,[_],_,rfl,rfl,rfl,[_],_,rfl,rfl,rfl,[_],_,rfl,rfl,rfl,[_],_,rfl,rfl,rfl,[_],_,rfl,rfl,rfl,[_],_,rfl,rfl,
  rfl,[_],_,rfl,a _,rfl,[_],_,rfl,a _,rfl,[_],_,rfl,a _,rfl,[_],_,rfl,a _,rfl,[_],[],rfl,rfl,rfl⟩
theorem agv (W:World) (lo pb rb:Nat) (h1:lo≤pb) (h2:lo≤rb) (h3:pb≠rb) (h:W.heap[pb]?=some (.cells zeroCells 29 (0,0))):iD W lo pb rb Pl.zero:=
 ⟨.slice none 0 0,.slice none 0 0,.slice none 0 0,.slice none 0 0,[],[],h,h1,h2,h3,World.ownsRow_nil _ _ _ _,World.ownsRow_nil _ _ _ _,World.ownsRow_nil _ _ _ _,World.ownsRow_nil _ _ _ _,rfl,rfl,(fun g h=>by cases h),by simp[Value.ownBlock],by simp[Value.ownBlock],by simp[Value.ownBlock],by simp[Value.ownBlock]⟩
theorem afZ {W:World} (aN:KW Tryz.prog W) {lo pb rb:Nat} {p:Pl} (hf:fq p) (hn:dO p) {cs:Array Value} (h:Rd W (fun b=>lo≤b) cu cs.toList (cK p)):
  Calls Tryz.prog 20 #[.agg cs] W fun e W'=>e= .returned (.tuple #[.string ⟨(if bR p then oh p else []).toArray⟩,.int .i64 (if bR p then 0 else 1)])∧Below W.heap.size W W':=by
 have hc:=((aev p hf hn).kK (by decide)).2 W (fun b=>lo≤b) [.agg cs] aN ⟨_,_,rfl,⟨cs.toList,h,by simp[Sh.mk,Sh.isAgg]⟩,rfl⟩;refine hc.mono fun e w' ⟨v,he,⟨vs,⟨v1,r1,hv1,⟨us,hu,hv2⟩,v3,r3,hv3,⟨Dm,hu2,hv4⟩,hr⟩,hv⟩,hb⟩=>⟨?_,hb⟩;simp only[bZ] at hr;subst hr;simp only[Rd] at hu hu2;subst hu hu2;subst hv1 hv3;simp[Sh.mk,Sh.isAgg] at hv2 hv4;subst hv2 hv4;simp at hv;rw[he,hv]
theorem afH (s:List UInt8) (hs:s.length≤1000000) (w:World) (aN:KW Tryz.prog w):
  Calls Tryz.prog 49 #[.string ⟨s.toArray⟩] w fun e w'=>∃sv,e= .returned (.tuple #[sv,.int .i64 (Gy (kG s))])∧(∀lo rb,w'.heap.size≤lo→lo≤rb→gq w' lo rb sv ((kG s).getD []))∧Below w.heap.size w w':=by
 have h:=((adW s hs).kK (by decide)).2 w (fun _=>True) [.string ⟨s.toArray⟩] aN ⟨_,_,rfl,⟨[.string ⟨s.toArray⟩],rfl,rfl⟩,rfl⟩;refine h.mono fun e w' ⟨v,he,⟨vs,⟨v1,r1,hv1,⟨us,hu,hv2⟩,v3,r3,hv3,⟨Dm,hu2,hv4⟩,hr⟩,hv⟩,hb⟩=>?_;simp only[bZ] at hr;subst hr;simp only[Rd] at hu2;obtain ⟨a,cap,e1,e2,e3,e4⟩:=hu;subst e1 hu2;subst hv1 hv3;simp[Sh.mk,Sh.isAgg] at hv2 hv4;subst hv2 hv4;simp at hv;have el:(C.ls (vC (kG s))).toList.length=((kG s).getD []).length:=by simp[vC]
 have el2:(vC (kG s)).length=((kG s).getD []).length:=by simp[vC]
 rw[el] at e2;rw[el2] at hv;refine ⟨_,by rw[he,hv],fun lo rb h1 h2=>⟨a,cap,rfl,e2,e3,fun hne=>?_⟩,hb⟩;obtain ⟨b,off,ea,_,hlt,hat⟩:=e4 (by simpa [vC] using hne);refine ⟨b,off,ea,by omega,by omega,fun j x hx=>?_⟩;obtain ⟨us,hl,hcs,hr⟩:=hat j (.str x) (by simp[vC,hx]);change us=[.string ⟨x.toArray⟩] at hr
 subst hr;have h3:=hcs 0 (.string ⟨x.toArray⟩) rfl;have e3:off+j*Sh.size .str+0=off+j:=by simp[Sh.size]
 rw[e3] at h3;exact h3
theorem vJ {P:Program} {fn:Func} {p u:Tmp} {ty:TypeId} (h:fn.results= #[.cell p ty,.tmp u]) (tmps:Array Value) (w:World) (g:Nat) (t:TypeId) (cs:Array Value) (fr:Nat×Nat) (d:TypeDesc)
  (hp:tmps.getD p undef= .pointer (some ⟨g,0,none⟩)) (hg:w.heap[g]?=some (.cells cs t fr))
  (hu:P.underlying ty=some d) (hd:(match d with| .struct _| .array _ _=>true|_=>false)=true) (hi:(P.info? ty).map (·.size)=some cs.size) (v:Value) (hv:tmps.getD u undef=v):
  (results fn tmps).run P w= .ok (.tuple #[.agg cs,v]) w:=by
 have hp':tmps[p]?.getD undef= .pointer (some ⟨g,0,none⟩):=by simpa using hp
 have hv':tmps[u]?.getD undef=v:=by simpa using hv
 simp[results,h,hp',hv',asAddr,run_loadVar_row w g t ty cs fr d hg hu hd hi]
end Go.Vc
set_option maxRecDepth 100000
namespace Go.Vc
open Go Go.Proofs Go.Plain
open Go.Lib (decDigits nDigits)
theorem U0:∀ {ws:dA},(∀w∈ws,w≠[])→ws.length≤(gZ ws).length∧∀w∈ws,w.length≤(gZ ws).length
 | [],_=>⟨Nat.le_refl _,fun w h=>by cases h⟩
 | [w],h=>by
  have:=List.length_pos_iff.2 (h w (by simp));refine ⟨by simp[gZ];omega,fun v hv=>?_⟩;rw[List.mem_singleton] at hv;rw[hv];exact Nat.le_refl _
 |w::v::r,h=>by
  obtain ⟨h1,h2⟩:=U0 (ws:=v::r) (fun x hx=>h x (by simp[hx]));have e:(gZ (w::v::r)).length=w.length+(gZ (v::r)).length+1:=by
   rw[show gZ (w::v::r)=w++32::gZ (v::r) from rfl,List.length_append,List.length_cons];omega
  rw[e];refine ⟨by simp only[List.length_cons] at h1 ⊢;omega,fun x hx=>?_⟩;rcases List.mem_cons.1 hx with rfl|hx
  ·omega
  ·have:=h2 x hx;omega
theorem aeF {f:Pl→dA→Option (Pl×dA)} {s:List UInt8} {ws:dA} (h:s≠[]) (hw:kG s=some ws):uy f s=(iter f ws.length Pl.zero ws).bind fun p=>if bR p∧oh p=s then some p else none:=by
 unfold uy;rw[if_neg h,hw];change (match iter f ws.length Pl.zero ws with|none=>none|some p=>if bR p∧oh p=s then some p else none)=_
 cases iter f ws.length Pl.zero ws<;>rfl
end Go.Vc
