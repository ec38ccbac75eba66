/-
  Contracts of functions of the program, each out of its condition or by a walk, and plain lemmas.
-/
import Derived.Test.YtaehhpempnelhaaGreatDoorQTx1
import Derived.Shelf.Strings.Builder1
import Derived.Shelf.Strings.Builder2
import Derived.Shelf.Strings.OnBuilder
import Derived.Shelf.Small.Strs
import Derived.Shelf.Strings.BuilderF
import Derived.Shelf.Strings.BuilderK
import Derived.Shelf.Strings.BuilderRune
import Derived.Shelf.Strings.Builder2Cap
import Derived.Shelf.Strconv.Itoa0
import Derived.Shelf.Strconv.Itoa1
import Derived.Shelf.LaysM
import Derived.Shelf.Strconv.Itoa2
import Derived.Shelf.Strconv.Itoa3
import Derived.Shelf.Strconv.Itoa4
import Derived.Test.YtaehhpempnelhaaGreatDoorQVcs1
import Derived.Test.YtaehhpempnelhaaGreatDoorQTt
import Derived.Test.YtaehhpempnelhaaGreatDoorQTx2
import Derived.Test.YtaehhpempnelhaaGreatDoorQYs
import Derived.Test.YtaehhpempnelhaaGreatDoorQYu
import Derived.Laws.ResultCell

namespace Go.Proofs
open Go.Shelf
def Tryz.lays156_ren:Go.Shelf.Ren:=⟨fun|156=>56|165=>103|166=>104|169=>105|240=>130|241=>131|276=>169|277=>170|n=>n,fun|31=>128|9=>9|3=>3|4=>4|0=>0|20=>20|72=>194|76=>198|70=>192|37=>22|75=>197|127=>242|164=>310|5=>5|80=>186|n=>n,fun|n=>n⟩
theorem Tryz.lays156:Go.Proofs.Lays.n156 Tryz.prog Tryz.lays156_ren:= {
 mixed:=by kernel_rfl
 f156:=Tryz.func56.trans (congrArg some (by kernel_rfl))
 f165:=Tryz.func103.trans (congrArg some (by kernel_rfl))
 f166:=Tryz.func104.trans (congrArg some (by kernel_rfl))
 f169:=Tryz.func105.trans (congrArg some (by kernel_rfl))
 f240:=Tryz.func130.trans (congrArg some (by kernel_rfl))
 f241:=Tryz.func131.trans (congrArg some (by kernel_rfl))
 f276:=Tryz.func169.trans (congrArg some (by kernel_rfl))
 f277:=Tryz.func170.trans (congrArg some (by kernel_rfl))
 t0:=Tryz.underlying0
 a0:=Tryz.isAgg0
 z0:=Tryz.sizeOf0
 v0:=Tryz.zeroValue0
 t3:=Tryz.underlying3
 a3:=Tryz.isAgg3
 z3:=Tryz.sizeOf3
 v3:=Tryz.zeroValue3
 t4:=Tryz.underlying4
 a4:=Tryz.isAgg4
 z4:=Tryz.sizeOf4
 v4:=Tryz.zeroValue4
 t9:=Tryz.underlying9
 a9:=Tryz.isAgg9
 z9:=Tryz.sizeOf9
 v9:=Tryz.zeroValue9
 t20:=Tryz.underlying20
 a20:=Tryz.isAgg20
 z20:=Tryz.sizeOf20
 v20:=Tryz.zeroValue20
 t31:=Tryz.underlying128
 a31:=Tryz.isAgg128
 z31:=Tryz.sizeOf128
 v31:=Tryz.zeroValue128
 t37:=Tryz.underlying22
 a37:=Tryz.isAgg22
 z37:=Tryz.sizeOf22
 v37:=Tryz.zeroValue22
 t70:=Tryz.underlying192
 a70:=Tryz.isAgg192
 z70:=Tryz.sizeOf192
 v70:=Tryz.zeroValue192
 t72:=Tryz.underlying194
 a72:=Tryz.isAgg194
 z72:=Tryz.sizeOf194
 v72:=Tryz.zeroValue194
 t75:=Tryz.underlying197
 a75:=Tryz.isAgg197
 z75:=Tryz.sizeOf197
 v75:=Tryz.zeroValue197
 t76:=Tryz.underlying198
 a76:=Tryz.isAgg198
 z76:=Tryz.sizeOf198
 v76:=Tryz.zeroValue198
 t127:=Tryz.underlying242
 a127:=Tryz.isAgg242
 z127:=Tryz.sizeOf242
 v127:=Tryz.zeroValue242
 t164:=Tryz.underlying310
 a164:=Tryz.isAgg310
 z164:=Tryz.sizeOf310
 v164:=Tryz.zeroValue310}
theorem Tryz.Builder_Extra_156:Builder.Extra Tryz.prog Tryz.lays156_ren:= {
 sizeBuilder:=by kernel_rfl
 liesBuilder:=by kernel_rfl
 t5:=Tryz.underlying5
 a5:=Tryz.isAgg5
 z5:=Tryz.sizeOf5
 v5:=Tryz.zeroValue5
 infoByte:=by kernel_rfl
 cellsByte:=by kernel_rfl
 sizeByte:=by kernel_rfl
 neB5:=by decide}
open Go.RowKit in
theorem Tryz.strings_Join_none (a:Option Addr) (c:Nat) (sep:ByteArray) (w:World):
  Calls Tryz.prog 56 #[.slice a 0 c,.string sep] w fun e w'=>e= .returned (.string ⟨#[]⟩)∧w'=w:=Any.strings_Join_none Tryz.lays156 Tryz.Builder_Extra_156 a c sep w
open Go.RowKit in
theorem Tryz.strings_Join (bk o c:Nat) (xs:List ByteArray) (sep:ByteArray) (w:World) (hcells:∀(j:Nat) x,xs[j]?=some x→w.cell? ⟨bk,o+j,none⟩=some (.string x)) (hbk:bk<w.heap.size) (hN:xs.length≤140737488355328) (hcap:xs.length≤c) (hlen:(Lib.join (xs.map (·.data.toList)) sep.data.toList).length≤140737488355328):
  Calls Tryz.prog 56 #[.slice (some ⟨bk,o,none⟩) xs.length c,.string sep] w fun e w'=>e= .returned (.string ⟨(Lib.join (xs.map (·.data.toList)) sep.data.toList).toArray⟩)∧Below w.heap.size w w':=Any.strings_Join Tryz.lays156 Tryz.Builder_Extra_156 bk o c xs sep w hcells hbk hN hcap hlen
def Tryz.laysM173_ren:Go.Shelf.Ren:=⟨fun|173=>101|246=>125|283=>163|284=>164|285=>165|286=>166|129=>65|317=>211|318=>212|319=>213|320=>214|337=>239|338=>240|n=>n,fun|2=>2|3=>3|9=>9|4=>4|171=>303|0=>0|53=>68|37=>22|5=>5|173=>305|212=>359|51=>24|20=>20|213=>360|46=>98|232=>391|233=>392|n=>n,fun|17=>2|18=>6|19=>7|n=>n⟩
theorem Tryz.laysM173:Go.Proofs.LaysM.n173 Tryz.prog Tryz.laysM173_ren:= {
 mixed:=by kernel_rfl
 f129:=Tryz.func65.trans (congrArg some (by kernel_rfl))
 f173:=Tryz.func101.trans (congrArg some (by kernel_rfl))
 f246:=Tryz.func125.trans (congrArg some (by kernel_rfl))
 f283:=Tryz.func163.trans (congrArg some (by kernel_rfl))
 f284:=Tryz.func164.trans (congrArg some (by kernel_rfl))
 f285:=Tryz.func165.trans (congrArg some (by kernel_rfl))
 f286:=Tryz.func166.trans (congrArg some (by kernel_rfl))
 f317:=Tryz.func211.trans (congrArg some (by kernel_rfl))
 f318:=Tryz.func212.trans (congrArg some (by kernel_rfl))
 f319:=Tryz.func213.trans (congrArg some (by kernel_rfl))
 f320:=Tryz.func214.trans (congrArg some (by kernel_rfl))
 f337:=Tryz.func239.trans (congrArg some (by kernel_rfl))
 f338:=Tryz.func240.trans (congrArg some (by kernel_rfl))
 t0:=Tryz.underlying0
 a0:=Tryz.isAgg0
 z0:=Tryz.sizeOf0
 v0:=Tryz.zeroValue0
 t2:=Tryz.underlying2
 a2:=Tryz.isAgg2
 z2:=Tryz.sizeOf2
 v2:=Tryz.zeroValue2
 t3:=Tryz.underlying3
 a3:=Tryz.isAgg3
 z3:=Tryz.sizeOf3
 v3:=Tryz.zeroValue3
 t4:=Tryz.underlying4
 a4:=Tryz.isAgg4
 z4:=Tryz.sizeOf4
 v4:=Tryz.zeroValue4
 t5:=Tryz.underlying5
 a5:=Tryz.isAgg5
 z5:=Tryz.sizeOf5
 v5:=Tryz.zeroValue5
 t9:=Tryz.underlying9
 a9:=Tryz.isAgg9
 z9:=Tryz.sizeOf9
 v9:=Tryz.zeroValue9
 t20:=Tryz.underlying20
 a20:=Tryz.isAgg20
 z20:=Tryz.sizeOf20
 v20:=Tryz.zeroValue20
 t37:=Tryz.underlying22
 a37:=Tryz.isAgg22
 z37:=Tryz.sizeOf22
 v37:=Tryz.zeroValue22
 t46:=Tryz.underlying98
 a46:=Tryz.isAgg98
 z46:=Tryz.sizeOf98
 v46:=Tryz.zeroValue98
 t51:=Tryz.underlying24
 a51:=Tryz.isAgg24
 z51:=Tryz.sizeOf24
 v51:=Tryz.zeroValue24
 t53:=Tryz.underlying68
 a53:=Tryz.isAgg68
 z53:=Tryz.sizeOf68
 v53:=Tryz.zeroValue68
 t171:=Tryz.underlying303
 a171:=Tryz.isAgg303
 z171:=Tryz.sizeOf303
 v171:=Tryz.zeroValue303
 t173:=Tryz.underlying305
 a173:=Tryz.isAgg305
 z173:=Tryz.sizeOf305
 v173:=Tryz.zeroValue305
 t212:=Tryz.underlying359
 a212:=Tryz.isAgg359
 z212:=Tryz.sizeOf359
 v212:=Tryz.zeroValue359
 t213:=Tryz.underlying360
 a213:=Tryz.isAgg360
 z213:=Tryz.sizeOf360
 t232:=Tryz.underlying391
 a232:=Tryz.isAgg391
 z232:=Tryz.sizeOf391
 v232:=Tryz.zeroValue391
 t233:=Tryz.underlying392
 a233:=Tryz.isAgg392
 z233:=Tryz.sizeOf392
 v233:=Tryz.zeroValue392
 g17:=by kernel_rfl
 g18:=by kernel_rfl
 g19:=by kernel_rfl
 i0:=by kernel_rfl
 i2:=by kernel_rfl
 i3:=by kernel_rfl
 i4:=by kernel_rfl
 i5:=by kernel_rfl
 i9:=by kernel_rfl
 i20:=by kernel_rfl
 i37:=by kernel_rfl
 i46:=by kernel_rfl
 i51:=by kernel_rfl
 i53:=by kernel_rfl
 i171:=by kernel_rfl
 i173:=by kernel_rfl
 i212:=by kernel_rfl
 i232:=by kernel_rfl
 i233:=by kernel_rfl
 m17:=by kernel_rfl
 m18:=by kernel_rfl
 m19:=by kernel_rfl}
open Go.RowKit Go.Sort Go.Lib in
theorem Tryz.strconv_FormatInt_10 (n:Int) (h0: -9223372036854775808≤n) (h1:n≤9223372036854775807) (w:World) (htab:Lib.TabIs Tryz.prog w "internal/strconv.uint64pow10" .u64 Lib.pow10Tab):
  Calls Tryz.prog 101 #[.int .i64 n,.int .i64 10] w fun e w'=>e= .returned (.string ⟨(Lib.itoa n).toArray⟩)∧∃k os,w'=grow (w.drewN k) os:=Any.strconv_FormatInt_10 Tryz.laysM173 n h0 h1 w htab
end Go.Proofs

set_option maxRecDepth 100000
namespace Go.Vc
open Go Go.Proofs Go.Plain Go.RowKit
open Go.Lib (decDigits nDigits)
theorem tab_pow:tabAt Tryz.prog pow10Name=some 2:=by kernel_rfl
theorem tab_pow2:Tryz.prog.globalNamed pow10Name=some 2:=by kernel_rfl
theorem pow_eq:tPow10=Lib.pow10Tab:=by decide+kernel
theorem kw_pow {w:World} (h:KW Tryz.prog w):Lib.TabIs Tryz.prog w "internal/strconv.uint64pow10" .u64 Lib.pow10Tab:=by
 obtain ⟨t,fz,e⟩:=h.2 _ tab_pow
 unfold Lib.TabIs World.var?
 have e2:Tryz.prog.globalNamed "internal/strconv.uint64pow10" =some 2:=tab_pow2
 rw[e2]
 simp only[Option.bind_some,e,pow_eq]
abbrev f_strconv_FormatInt:FuncId:=101
theorem pc_FormatInt (n:Int) (h0:0≤n) (h1:n<9223372036854775808):PC Tryz.prog f_strconv_FormatInt [(I64,.int n),(I64,.int 10)] [(.str,.str (numI n))]:=by
 refine PC.of0 (by decide) ⟨⟨_,Tryz.func101,by kernel_rfl,by kernel_rfl⟩,fun w N vs hkw hrd=>?_⟩
 obtain ⟨v,r,rfl,⟨us,hu,rfl⟩,v2,r2,rfl,⟨us2,hu2,rfl⟩,hr⟩:=hrd
 simp only[RdVs] at hr
 subst hr
 simp only[Rd] at hu hu2
 subst hu hu2
 have hc:=Tryz.strconv_FormatInt_10 n (by omega) (by omega) w (kw_pow hkw)
 have e:Lib.itoa n=numI n:=by unfold Lib.itoa numI;rw[if_neg (by omega)]
 rw[e] at hc
 refine hc.mono fun e w' ⟨he,k,os,hb⟩=>⟨_,he,⟨[.string ⟨(numI n).toArray⟩],⟨_,_,rfl,⟨_,rfl,rfl⟩,rfl⟩,?_⟩,?_⟩
 ·simp
 ·rw[hb]
  exact ⟨rfl,rfl,rfl,by show w.heap.size≤(w.heap++os).size;rw[Array.size_append];omega,fun j hj=>Sort.heap_grow_old (w.drewN k) os hj⟩
theorem pc_digits (n:Int) (h0:0≤n) (h1:n<9223372036854775808):PC Tryz.prog f_say_digits_int_ [(I64,.int n)] [(.str,.str (numI n))]:=by
 apply pcv_say_digits_int_ rfl
 simp only[vc_say_digits_int_,sVC,sEV,sENV,sVAL,sBO,forall_const]
 exact ⟨_,pc_FormatInt n h0 h1,rfl⟩
theorem pc_digits16 (n:Int) (h0:0≤n) (h1:n<65536):PC Tryz.prog f_say_digits_uint16_ [(.int .u16,.int n)] [(.str,.str (numI n))]:=by
 apply pcv_say_digits_uint16_ rfl
 simp only[vc_say_digits_uint16_,sVC,sEV,sENV,sVAL,sBO,forall_const,wrapi64]
 have e:(n+9223372036854775808)%18446744073709551616-9223372036854775808=n:=by omega
 first|rw[e]|skip
 exact ⟨_,pc_FormatInt n h0 (by omega),rfl⟩
theorem pc_digits32 (n:Int) (h0:0≤n) (h1:n<4294967296):PC Tryz.prog f_say_digits_uint32_ [(.int .u32,.int n)] [(.str,.str (numI n))]:=by
 apply pcv_say_digits_uint32_ rfl
 simp only[vc_say_digits_uint32_,sVC,sEV,sENV,sVAL,sBO,forall_const,wrapi64]
 have e:(n+9223372036854775808)%18446744073709551616-9223372036854775808=n:=by omega
 first|rw[e]|skip
 exact ⟨_,pc_FormatInt n h0 (by omega),rfl⟩
theorem pc_quoted (s:List UInt8) (hs:s.length≤1000000):PC Tryz.prog f_say_quoted [(Byt,.ls (ofBytes s))] [(.str,.str (qs s))]:=by
 apply pcv_say_quoted rfl
 simp only[vc_say_quoted,sVC,sEV,sENV,sVAL,sBO,forall_const,bytesOf_ofBytes]
 exact ⟨_,quoteOk s hs,rfl⟩
theorem join_sp:∀ws:List (List UInt8),Lib.join ws [32]=joinSp ws
 | []=>rfl
 | [w]=>by rw[Lib.join_one];rfl
 |w::v::r=>by
  have ih:=join_sp (v::r)
  rw[Lib.join_cons] at ih ⊢
  rw[show joinSp (w::v::r)=w++32::joinSp (v::r) from rfl,←ih]
  simp[Lib.joinTail]
abbrev f_strings_Join:FuncId:=56
theorem pc_Join (ws:List (List UInt8)) (h1:ws.length≤1000000000) (h2:(joinSp ws).length≤140737488355328):PC Tryz.prog f_strings_Join [(.sl .str,.ls (ws.map .str)),(.str,.str [32])] [(.str,.str (joinSp ws))]:=by
 refine PC.of0 (by decide) ⟨⟨_,Tryz.func56,by kernel_rfl,by kernel_rfl⟩,fun w N vs hkw hrd=>?_⟩
 obtain ⟨v,r,rfl,⟨us,hu,rfl⟩,v2,r2,rfl,⟨us2,hu2,rfl⟩,hr⟩:=hrd
 simp only[RdVs] at hr
 subst hr
 simp only[Rd,C.toList_ls,List.length_map] at hu hu2
 subst hu2
 obtain ⟨a,cap,rfl,hcap,hmx,hrow⟩:=hu
 have fin:∀w',Below w.heap.size w w'→∀e:Ending,e= .returned (.string ⟨(joinSp ws).toArray⟩)→∃v,e= .returned v∧RdRes w' (fun b=>N b∨w.heap.size≤b) [(.str,.str (joinSp ws))] v∧Below w.heap.size w w':=fun w' hb e he=>⟨_,he,⟨[.string ⟨(joinSp ws).toArray⟩],⟨_,_,rfl,⟨_,rfl,rfl⟩,rfl⟩,by simp⟩,hb⟩
 by_cases hw:ws=[]
 ·subst hw
  refine (Tryz.strings_Join_none a cap ⟨#[32]⟩ w).mono fun e w' ⟨he,hb⟩=>?_
  rw[hb]
  exact fin w ⟨rfl,rfl,rfl,Nat.le_refl _,fun _ _=>rfl⟩ e he
 ·obtain ⟨b,off,rfl,hN,hlt,hat⟩:=hrow (by simpa using hw)
  have hc:=Tryz.strings_Join b off cap (ws.map fun x=>⟨x.toArray⟩) ⟨#[32]⟩ w (fun j x hx=>?_) hlt (by rw[List.length_map];omega) (by rw[List.length_map];exact hcap) ?_
  ·rw[List.length_map] at hc
   have e:(ws.map fun x=>(⟨x.toArray⟩:ByteArray)).map (·.data.toList)=ws:=by rw[List.map_map];exact List.map_id'' (fun _=>rfl) ws
   rw[e] at hc
   refine hc.mono fun e w' ⟨he,hb⟩=>fin w' hb e ?_
   rw[he,show (⟨#[32]⟩:ByteArray).data.toList=[32] from rfl,join_sp]
  ·rw[List.getElem?_map] at hx
   obtain ⟨y,hy,rfl⟩:=Option.map_eq_some_iff.1 hx
   obtain ⟨us,hl,hcs,hr⟩:=hat j (.str y) (by rw[List.getElem?_map,hy];rfl)
   change us=[.string ⟨y.toArray⟩] at hr
   subst hr
   have h3:=hcs 0 (.string ⟨y.toArray⟩) rfl
   have e3:off+j*Sh.size .str+0=off+j:=by simp[Sh.size]
   rw[e3] at h3
   exact h3
  ·have e:(ws.map fun x=>(⟨x.toArray⟩:ByteArray)).map (·.data.toList)=ws:=by rw[List.map_map];exact List.map_id'' (fun _=>rfl) ws
   rw[e,show (⟨#[32]⟩:ByteArray).data.toList=[32] from rfl,join_sp]
   exact h2
end Go.Vc

set_option maxRecDepth 100000
namespace Go.Vc
open Go Go.Proofs Go.Plain
open Go.Lib (decDigits nDigits)
end Go.Vc

set_option maxRecDepth 100000
namespace Go.Vc
open Go Go.Proofs Go.Plain
open Go.Lib (decDigits nDigits)
abbrev Wds:=List (List UInt8)
def iter (f:Pl→Wds→Option (Pl×Wds)):Nat→Pl→Wds→Option Pl
 |0,p,ws=>if ws=[] then some p else none
 |k+1,p,ws=>if ws=[] then some p else match f p ws with|none=>none|some x=>iter f k x.1 x.2
theorem iter_nil (f:Pl→Wds→Option (Pl×Wds)) (k:Nat) (p:Pl):iter f k p []=some p:=by cases k<;>rfl
theorem iter_some {f:Pl→Wds→Option (Pl×Wds)} {k:Nat} {p q:Pl} {ws r:Wds} (h:ws≠[]) (hf:f p ws=some (q,r)):iter f (k+1) p ws=iter f k q r:=by rw[iter,if_neg h,hf]
theorem iter_none {f:Pl→Wds→Option (Pl×Wds)} {k:Nat} {p:Pl} {ws:Wds} (h:ws≠[]) (hf:f p ws=none):iter f (k+1) p ws=none:=by rw[iter,if_neg h,hf]
def Runs (f:Pl→Wds→Option (Pl×Wds)) (p:Pl) (ws:Wds) (q:Pl) (r:Wds):Prop:=∃n,r.length+n≤ws.length∧∀k,iter f (n+k) p ws=iter f k q r
theorem Runs.refl (f:Pl→Wds→Option (Pl×Wds)) (p:Pl) (ws:Wds):Runs f p ws p ws:=⟨0,by omega,fun k=>by rw[Nat.zero_add]⟩
theorem Runs.trans {f:Pl→Wds→Option (Pl×Wds)} {p q s:Pl} {ws r t:Wds} (h:Runs f p ws q r) (g:Runs f q r s t):Runs f p ws s t:=by
 obtain ⟨n,h1,h2⟩:=h
 obtain ⟨m,g1,g2⟩:=g
 exact ⟨n+m,by omega,fun k=>by rw[Nat.add_assoc,h2,g2]⟩
theorem Runs.step {f:Pl→Wds→Option (Pl×Wds)} {p q:Pl} {w:List UInt8} {ws r:Wds} (hf:f p (w::ws)=some (q,r)) (hl:r.length≤ws.length):Runs f p (w::ws) q r:=
 ⟨1,by simp;omega,fun k=>by rw[Nat.add_comm];exact iter_some (by simp) hf⟩
structure Good (f:Pl→Wds→Option (Pl×Wds)):Prop where
 marker:∀p (b:Bool) r,f p (wMarker::(if b then wOn else wOff)::r)=some ({p with sm:=true,m:=b},r)
 type:∀p (n:Int) r,0≤n→n≤255→f p (wType::numI n::r)=some ({p with st:=true,ty:=n},r)
 seq:∀p (n:Int) r,0≤n→n<65536→f p (wSeq::numI n::r)=some ({p with sq:=true,seq:=n},r)
 time:∀p (n:Int) r,0≤n→n<4294967296→f p (wTime::numI n::r)=some ({p with stm:=true,time:=n},r)
 ssrc:∀p (n:Int) r,0≤n→n<4294967296→f p (wSsrc::numI n::r)=some ({p with ss:=true,ssrc:=n},r)
 map:∀p (a b:Int) r,0≤a→a≤255→0≤b→b≤255→f p (wMap::numI a::numI b::r)=some ({p with maps:=p.maps++ [⟨a,b⟩]},r)
 over:∀p (a:Int) d r,0≤a→a≤255→f p (wOver::numI a::qs d::r)=some ({p with over:=p.over++ [⟨a,d⟩]},r)
 drop:∀p (a:Int) r,0≤a→a≤255→f p (wDrop::numI a::r)=some ({p with drops:=p.drops++ [a]},r)
 add:∀p (a:Int) d r,0≤a→a≤255→f p (wAdd::numI a::qs d::r)=some ({p with adds:=p.adds++ [⟨a,d⟩]},r)
 nopad:∀p r,f p (wNopad::r)=some ({p with np:=true},r)
section
variable {f:Pl→Wds→Option (Pl×Wds)} (G:Good f)
include G
theorem runs_maps:∀(l pre:List Mp) (q:Pl) (r:Wds),q.maps=pre→(∀m∈l,1≤m.fr∧m.fr≤255∧1≤m.to∧m.to≤255)→Runs f q (tkM l++r) {q with maps:=pre++l} r
 | [],pre,q,r,h,_=>by
  subst h
  rw[List.append_nil]
  exact Runs.refl f q r
 |m::l,pre,q,r,h,hm=>by
  subst h
  obtain ⟨m1,m2,m3,m4⟩:=hm m (by simp<;>omega)
  have ih:=runs_maps l (q.maps++ [m]) {q with maps:=q.maps++ [m]} r rfl (fun m hm2=>hm m (by simp[hm2]))
  rw[List.append_assoc] at ih
  refine Runs.trans ?_ ih
  rw[show tkM (m::l)++r=wMap::numI m.fr::numI m.to::(tkM l++r) from rfl]
  exact Runs.step (G.map q m.fr m.to _ (by omega) m2 (by omega) m4) (by simp<;>omega)
theorem runs_over:∀(l pre:List El) (q:Pl) (r:Wds),q.over=pre→(∀m∈l,1≤m.id∧m.id≤255)→Runs f q (tkE wOver l++r) {q with over:=pre++l} r
 | [],pre,q,r,h,_=>by
  subst h
  rw[List.append_nil]
  exact Runs.refl f q r
 |m::l,pre,q,r,h,hm=>by
  subst h
  obtain ⟨m1,m2⟩:=hm m (by simp<;>omega)
  have ih:=runs_over l (q.over++ [m]) {q with over:=q.over++ [m]} r rfl (fun m hm2=>hm m (by simp[hm2]))
  rw[List.append_assoc] at ih
  refine Runs.trans ?_ ih
  rw[show tkE wOver (m::l)++r=wOver::numI m.id::qs m.data::(tkE wOver l++r) from rfl]
  exact Runs.step (G.over q m.id m.data _ (by omega) m2) (by simp<;>omega)
theorem runs_adds:∀(l pre:List El) (q:Pl) (r:Wds),q.adds=pre→(∀m∈l,1≤m.id∧m.id≤255)→Runs f q (tkE wAdd l++r) {q with adds:=pre++l} r
 | [],pre,q,r,h,_=>by
  subst h
  rw[List.append_nil]
  exact Runs.refl f q r
 |m::l,pre,q,r,h,hm=>by
  subst h
  obtain ⟨m1,m2⟩:=hm m (by simp<;>omega)
  have ih:=runs_adds l (q.adds++ [m]) {q with adds:=q.adds++ [m]} r rfl (fun m hm2=>hm m (by simp[hm2]))
  rw[List.append_assoc] at ih
  refine Runs.trans ?_ ih
  rw[show tkE wAdd (m::l)++r=wAdd::numI m.id::qs m.data::(tkE wAdd l++r) from rfl]
  exact Runs.step (G.add q m.id m.data _ (by omega) m2) (by simp<;>omega)
theorem runs_drops:∀(l pre:List Int) (q:Pl) (r:Wds),q.drops=pre→(∀m∈l,1≤m∧m≤255)→Runs f q (tkD l++r) {q with drops:=pre++l} r
 | [],pre,q,r,h,_=>by
  subst h
  rw[List.append_nil]
  exact Runs.refl f q r
 |m::l,pre,q,r,h,hm=>by
  subst h
  obtain ⟨m1,m2⟩:=hm m (by simp<;>omega)
  have ih:=runs_drops l (q.drops++ [m]) {q with drops:=q.drops++ [m]} r rfl (fun m hm2=>hm m (by simp[hm2]))
  rw[List.append_assoc] at ih
  refine Runs.trans ?_ ih
  rw[show tkD (m::l)++r=wDrop::numI m::(tkD l++r) from rfl]
  exact Runs.step (G.drop q m _ (by omega) m2) (by simp<;>omega)
theorem runs_toks (p:Pl) (hp:plRight p) (hn:plNum p):Runs f Pl.zero (toks p) p []:=by
 obtain ⟨⟨f1,f2,f3,f4,f5,t0,t1⟩,r1,r2,r3,r4,r5,_⟩:=hp
 obtain ⟨n1,n2,n3,n4,n5,n6⟩:=hn
 have hm:∀m∈p.maps,1≤m.fr∧m.fr≤255∧1≤m.to∧m.to≤255:=fun m hm=>by
  have a1:=ids_lt r1 m.fr (List.mem_map.2 ⟨m,hm,rfl⟩)
  have a2:=ids_lt r2 m.to (List.mem_map.2 ⟨m,hm,rfl⟩)
  exact ⟨a1.1,a1.2,a2.1,a2.2⟩
 have ho:∀m∈p.over,1≤m.id∧m.id≤255:=fun m hm=>⟨(els_lt r4 m hm).1,(els_lt r4 m hm).2.1⟩
 have ha:∀m∈p.adds,1≤m.id∧m.id≤255:=fun m hm=>⟨(els_lt r5 m hm).1,(els_lt r5 m hm).2.1⟩
 have hd:=ids_lt r3
 obtain ⟨sm,m,st,ty,sq,seq,stm,time,ss,ssrc,maps,over,drops,adds,np⟩:=p
 simp only at*
 have s1:∀r,Runs f Pl.zero (tk1 ⟨sm,m,st,ty,sq,seq,stm,time,ss,ssrc,maps,over,drops,adds,np⟩++r) ⟨sm,m,false,0,false,0,false,0,false,0,[],[],[],[],false⟩ r:=by
  intro r
  unfold tk1
  cases sm with
  |true=>exact Runs.step (G.marker Pl.zero m r) (by simp<;>omega)
  |false=>
   obtain rfl:m=false:=by simpa using f1
   exact Runs.refl _ _ _
 have s2:∀r,Runs f ⟨sm,m,false,0,false,0,false,0,false,0,[],[],[],[],false⟩ (tk2 ⟨sm,m,st,ty,sq,seq,stm,time,ss,ssrc,maps,over,drops,adds,np⟩++r) ⟨sm,m,st,ty,false,0,false,0,false,0,[],[],[],[],false⟩ r:=by
  intro r
  unfold tk2
  cases st with
  |true=>exact Runs.step (G.type _ ty r t0 (by omega)) (by simp<;>omega)
  |false=>
   obtain rfl:ty=0:=by simpa using f2
   exact Runs.refl _ _ _
 have s3:∀r,Runs f ⟨sm,m,st,ty,false,0,false,0,false,0,[],[],[],[],false⟩ (tk3 ⟨sm,m,st,ty,sq,seq,stm,time,ss,ssrc,maps,over,drops,adds,np⟩++r) ⟨sm,m,st,ty,sq,seq,false,0,false,0,[],[],[],[],false⟩ r:=by
  intro r
  unfold tk3
  cases sq with
  |true=>exact Runs.step (G.seq _ seq r n1 n2) (by simp<;>omega)
  |false=>
   obtain rfl:seq=0:=by simpa using f3
   exact Runs.refl _ _ _
 have s4:∀r,Runs f ⟨sm,m,st,ty,sq,seq,false,0,false,0,[],[],[],[],false⟩ (tk4 ⟨sm,m,st,ty,sq,seq,stm,time,ss,ssrc,maps,over,drops,adds,np⟩++r) ⟨sm,m,st,ty,sq,seq,stm,time,false,0,[],[],[],[],false⟩ r:=by
  intro r
  unfold tk4
  cases stm with
  |true=>exact Runs.step (G.time _ time r n3 n4) (by simp<;>omega)
  |false=>
   obtain rfl:time=0:=by simpa using f4
   exact Runs.refl _ _ _
 have s5:∀r,Runs f ⟨sm,m,st,ty,sq,seq,stm,time,false,0,[],[],[],[],false⟩ (tk5 ⟨sm,m,st,ty,sq,seq,stm,time,ss,ssrc,maps,over,drops,adds,np⟩++r) ⟨sm,m,st,ty,sq,seq,stm,time,ss,ssrc,[],[],[],[],false⟩ r:=by
  intro r
  unfold tk5
  cases ss with
  |true=>exact Runs.step (G.ssrc _ ssrc r n5 n6) (by simp<;>omega)
  |false=>
   obtain rfl:ssrc=0:=by simpa using f5
   exact Runs.refl _ _ _
 unfold toks
 refine (s1 _).trans ((s2 _).trans ((s3 _).trans ((s4 _).trans ((s5 _).trans ?_))))
 refine (runs_maps G maps [] _ _ rfl hm).trans ?_
 refine (runs_over G over [] _ _ rfl ho).trans ?_
 refine (runs_drops G drops [] _ _ rfl hd).trans ?_
 refine (runs_adds G adds [] _ _ rfl ha).trans ?_
 unfold tkN
 cases np with
 |true=>exact Runs.step (G.nopad _ []) (by simp<;>omega)
 |false=>exact Runs.refl _ _ _
theorem iter_toks (p:Pl) (hp:plRight p) (hn:plNum p):iter f (toks p).length Pl.zero (toks p)=some p:=by
 obtain ⟨n,h1,h2⟩:=runs_toks G p hp hn
 have:=h2 ((toks p).length-n)
 rw[iter_nil,show n+((toks p).length-n)=(toks p).length by simp at h1;omega] at this
 exact this
end
/-- A plan that a text says, by a reader of words. -/
def parseBy (f:Pl→Wds→Option (Pl×Wds)) (s:List UInt8):Option Pl:=
 if s=[] then some Pl.zero else
  match wordsL s with
  |none=>none
  |some ws=>match iter f ws.length Pl.zero ws with
   |none=>none
   |some p=>if plRight p∧printL p=s then some p else none
theorem joinSp_nil:∀ {ts:Wds},(∀w∈ts,w≠[])→joinSp ts=[]→ts=[]
 | [],_,_=>rfl
 | [w],h,h2=>absurd h2 (h w (by simp))
 |w::v::r,_,h2=>by simp[joinSp] at h2
theorem zero_right:plRight Pl.zero∧plNum Pl.zero∧printL Pl.zero=[]:=⟨by decide,by decide,rfl⟩
theorem toks_nil {p:Pl} (hp:plRight p) (h:toks p=[]):p=Pl.zero:=by
 obtain ⟨⟨f1,f2,f3,f4,f5,t0,t1⟩,_⟩:=hp
 unfold toks at h
 simp only[List.append_eq_nil_iff] at h
 obtain ⟨h1,h2,h3,h4,h5,h6,h7,h8,h9,h10⟩:=h
 obtain ⟨sm,m,st,ty,sq,seq,stm,time,ss,ssrc,maps,over,drops,adds,np⟩:=p
 unfold tk1 at h1
 unfold tk2 at h2
 unfold tk3 at h3
 unfold tk4 at h4
 unfold tk5 at h5
 unfold tkN at h10
 cases sm<;>simp at h1
 cases st<;>simp at h2
 cases sq<;>simp at h3
 cases stm<;>simp at h4
 cases ss<;>simp at h5
 cases np<;>simp at h10
 obtain rfl:maps=[]:=by cases maps with|nil=>rfl|cons a l=>simp[tkM] at h6
 obtain rfl:over=[]:=by cases over with|nil=>rfl|cons a l=>simp[tkE] at h7
 obtain rfl:drops=[]:=by cases drops with|nil=>rfl|cons a l=>simp[tkD] at h8
 obtain rfl:adds=[]:=by cases adds with|nil=>rfl|cons a l=>simp[tkE] at h9
 obtain rfl:m=false:=by simpa using f1
 obtain rfl:ty=0:=by simpa using f2
 obtain rfl:seq=0:=by simpa using f3
 obtain rfl:time=0:=by simpa using f4
 obtain rfl:ssrc=0:=by simpa using f5
 rfl
theorem print_nil {p:Pl} (hp:plRight p) (hn:plNum p) (h:printL p=[]):p=Pl.zero:=
 toks_nil hp (joinSp_nil (fun w hw=>isWord_ne (toks_word hp hn w hw)) h)
theorem print_words {p:Pl} (hp:plRight p) (hn:plNum p) (h:printL p≠[]):wordsL (printL p)=some (toks p)∧wordsL (printL p++ [32])=none:=by
 have hne:toks p≠[]:=fun e=>h (by unfold printL;rw[e];rfl)
 have:=words_of (toks p) hne (toks_word hp hn)
 exact ⟨this.1,this.2.1⟩
theorem iter_num {f:Pl→Wds→Option (Pl×Wds)} (hf:∀p ws q r,f p ws=some (q,r)→plNum p→plNum q):∀(k:Nat) (p:Pl) (ws:Wds) (q:Pl),iter f k p ws=some q→plNum p→plNum q
 |0,p,ws,q,h,hp=>by
  unfold iter at h
  split at h
  ·cases h;exact hp
  ·cases h
 |k+1,p,ws,q,h,hp=>by
  unfold iter at h
  split at h
  ·cases h;exact hp
  ·split at h
   ·cases h
   ·rename_i x hx
    exact iter_num hf k x.1 x.2 q h (hf p ws x.1 x.2 hx hp)
theorem parse_iff {f:Pl→Wds→Option (Pl×Wds)} (G:Good f) (hf:∀p ws q r,f p ws=some (q,r)→plNum p→plNum q) (s:List UInt8) (p:Pl):parseBy f s=some p↔plRight p∧plNum p∧printL p=s:=by
 constructor
 ·intro h
  unfold parseBy at h
  split at h
  ·rename_i hs
   subst hs
   cases h
   exact zero_right
  ·split at h
   ·cases h
   ·split at h
    ·cases h
    ·rename_i q hq
     split at h
     ·rename_i hr
      cases h
      exact ⟨hr.1,iter_num hf _ _ _ _ hq zero_right.2.1,hr.2⟩
     ·cases h
 ·rintro ⟨hp,hn,rfl⟩
  unfold parseBy
  split
  ·rename_i hs
   rw[print_nil hp hn hs]
  ·rename_i hs
   rw[(print_words hp hn hs).1]
   simp only[iter_toks G p hp hn]
   rw[if_pos ⟨hp,trivial⟩]
end Go.Vc

set_option maxRecDepth 100000
namespace Go.Vc
open Go Go.Proofs Go.Plain
open Go.Lib (decDigits nDigits)
theorem fold_ge:∀(w:List UInt8) (v:Nat),v≤w.foldl (fun n x=>10*n+(x.toNat-48)) v
 | [],v=>Nat.le_refl _
 |x::w,v=>by
  have:=fold_ge w (10*v+(x.toNat-48))
  rw[List.foldl_cons]
  omega
theorem numGo_digs (most:Nat):∀(w:List UInt8) (v:Nat),w.all dig?=true→w.foldl (fun n x=>10*n+(x.toNat-48)) v≤most→numGo most (w.map ([·])) v=(w.foldl (fun n x=>10*n+(x.toNat-48)) v,false)
 | [],v,_,_=>rfl
 |x::w,v,h,hm=>by
  rw[List.all_cons,Bool.and_eq_true] at h
  have hd:=of_decide_eq_true h.1
  rw[List.foldl_cons] at hm ⊢
  have:=fold_ge w (10*v+(x.toNat-48))
  rw[List.map_cons,numGo_cons,dec_ascii x [] (by omega)]
  simp only
  rw[if_pos hd,if_neg (by omega)]
  exact numGo_digs most w _ h.2 hm
theorem chunks_digs {w:List UInt8} (h:w.all dig?=true):chunks w=w.map ([·]):=by
 have:=chunks_sgn w [] (List.all_eq_true.2 fun x hx=>dig_sgn (List.all_eq_true.1 h x hx))
 rwa[List.append_nil,chunks_nil,List.append_nil] at this
theorem numR_num (most:Nat) (n:Int) (h0:0≤n) (h:n≤most):numR most (numI n)=(n.toNat,false):=by
 obtain ⟨h1,h2,_⟩:=dec_facts n.toNat
 unfold numR
 rw[chunks_digs h1]
 have:=numGo_digs most (numI n) 0 h1 (by change valD (decDigits n.toNat)≤most;omega)
 rw[this]
 exact congrArg (·,false) h2
def grpS (p:Pl) (ws:Wds):Option (Pl×Wds):=if (grpR p ws false).2.2 then none else some ((grpR p ws false).1,(grpR p ws false).2.1)
theorem grpS_of {p q:Pl} {ws r:Wds} (h:grpR p ws false=(q,r,false)):grpS p ws=some (q,r):=by unfold grpS;rw[h];rfl
theorem ne_wMarker_wType:¬wMarker=wType:=by decide
theorem ne_wMarker_wSeq:¬wMarker=wSeq:=by decide
theorem ne_wMarker_wTime:¬wMarker=wTime:=by decide
theorem ne_wMarker_wSsrc:¬wMarker=wSsrc:=by decide
theorem ne_wMarker_wMap:¬wMarker=wMap:=by decide
theorem ne_wMarker_wOver:¬wMarker=wOver:=by decide
theorem ne_wMarker_wDrop:¬wMarker=wDrop:=by decide
theorem ne_wMarker_wAdd:¬wMarker=wAdd:=by decide
theorem ne_wMarker_wNopad:¬wMarker=wNopad:=by decide
theorem ne_wType_wMarker:¬wType=wMarker:=by decide
theorem ne_wType_wSeq:¬wType=wSeq:=by decide
theorem ne_wType_wTime:¬wType=wTime:=by decide
theorem ne_wType_wSsrc:¬wType=wSsrc:=by decide
theorem ne_wType_wMap:¬wType=wMap:=by decide
theorem ne_wType_wOver:¬wType=wOver:=by decide
theorem ne_wType_wDrop:¬wType=wDrop:=by decide
theorem ne_wType_wAdd:¬wType=wAdd:=by decide
theorem ne_wType_wNopad:¬wType=wNopad:=by decide
theorem ne_wSeq_wMarker:¬wSeq=wMarker:=by decide
theorem ne_wSeq_wType:¬wSeq=wType:=by decide
theorem ne_wSeq_wTime:¬wSeq=wTime:=by decide
theorem ne_wSeq_wSsrc:¬wSeq=wSsrc:=by decide
theorem ne_wSeq_wMap:¬wSeq=wMap:=by decide
theorem ne_wSeq_wOver:¬wSeq=wOver:=by decide
theorem ne_wSeq_wDrop:¬wSeq=wDrop:=by decide
theorem ne_wSeq_wAdd:¬wSeq=wAdd:=by decide
theorem ne_wSeq_wNopad:¬wSeq=wNopad:=by decide
theorem ne_wTime_wMarker:¬wTime=wMarker:=by decide
theorem ne_wTime_wType:¬wTime=wType:=by decide
theorem ne_wTime_wSeq:¬wTime=wSeq:=by decide
theorem ne_wTime_wSsrc:¬wTime=wSsrc:=by decide
theorem ne_wTime_wMap:¬wTime=wMap:=by decide
theorem ne_wTime_wOver:¬wTime=wOver:=by decide
theorem ne_wTime_wDrop:¬wTime=wDrop:=by decide
theorem ne_wTime_wAdd:¬wTime=wAdd:=by decide
theorem ne_wTime_wNopad:¬wTime=wNopad:=by decide
theorem ne_wSsrc_wMarker:¬wSsrc=wMarker:=by decide
theorem ne_wSsrc_wType:¬wSsrc=wType:=by decide
theorem ne_wSsrc_wSeq:¬wSsrc=wSeq:=by decide
theorem ne_wSsrc_wTime:¬wSsrc=wTime:=by decide
theorem ne_wSsrc_wMap:¬wSsrc=wMap:=by decide
theorem ne_wSsrc_wOver:¬wSsrc=wOver:=by decide
theorem ne_wSsrc_wDrop:¬wSsrc=wDrop:=by decide
theorem ne_wSsrc_wAdd:¬wSsrc=wAdd:=by decide
theorem ne_wSsrc_wNopad:¬wSsrc=wNopad:=by decide
theorem ne_wMap_wMarker:¬wMap=wMarker:=by decide
theorem ne_wMap_wType:¬wMap=wType:=by decide
theorem ne_wMap_wSeq:¬wMap=wSeq:=by decide
theorem ne_wMap_wTime:¬wMap=wTime:=by decide
theorem ne_wMap_wSsrc:¬wMap=wSsrc:=by decide
theorem ne_wMap_wOver:¬wMap=wOver:=by decide
theorem ne_wMap_wDrop:¬wMap=wDrop:=by decide
theorem ne_wMap_wAdd:¬wMap=wAdd:=by decide
theorem ne_wMap_wNopad:¬wMap=wNopad:=by decide
theorem ne_wOver_wMarker:¬wOver=wMarker:=by decide
theorem ne_wOver_wType:¬wOver=wType:=by decide
theorem ne_wOver_wSeq:¬wOver=wSeq:=by decide
theorem ne_wOver_wTime:¬wOver=wTime:=by decide
theorem ne_wOver_wSsrc:¬wOver=wSsrc:=by decide
theorem ne_wOver_wMap:¬wOver=wMap:=by decide
theorem ne_wOver_wDrop:¬wOver=wDrop:=by decide
theorem ne_wOver_wAdd:¬wOver=wAdd:=by decide
theorem ne_wOver_wNopad:¬wOver=wNopad:=by decide
theorem ne_wDrop_wMarker:¬wDrop=wMarker:=by decide
theorem ne_wDrop_wType:¬wDrop=wType:=by decide
theorem ne_wDrop_wSeq:¬wDrop=wSeq:=by decide
theorem ne_wDrop_wTime:¬wDrop=wTime:=by decide
theorem ne_wDrop_wSsrc:¬wDrop=wSsrc:=by decide
theorem ne_wDrop_wMap:¬wDrop=wMap:=by decide
theorem ne_wDrop_wOver:¬wDrop=wOver:=by decide
theorem ne_wDrop_wAdd:¬wDrop=wAdd:=by decide
theorem ne_wDrop_wNopad:¬wDrop=wNopad:=by decide
theorem ne_wAdd_wMarker:¬wAdd=wMarker:=by decide
theorem ne_wAdd_wType:¬wAdd=wType:=by decide
theorem ne_wAdd_wSeq:¬wAdd=wSeq:=by decide
theorem ne_wAdd_wTime:¬wAdd=wTime:=by decide
theorem ne_wAdd_wSsrc:¬wAdd=wSsrc:=by decide
theorem ne_wAdd_wMap:¬wAdd=wMap:=by decide
theorem ne_wAdd_wOver:¬wAdd=wOver:=by decide
theorem ne_wAdd_wDrop:¬wAdd=wDrop:=by decide
theorem ne_wAdd_wNopad:¬wAdd=wNopad:=by decide
theorem ne_wNopad_wMarker:¬wNopad=wMarker:=by decide
theorem ne_wNopad_wType:¬wNopad=wType:=by decide
theorem ne_wNopad_wSeq:¬wNopad=wSeq:=by decide
theorem ne_wNopad_wTime:¬wNopad=wTime:=by decide
theorem ne_wNopad_wSsrc:¬wNopad=wSsrc:=by decide
theorem ne_wNopad_wMap:¬wNopad=wMap:=by decide
theorem ne_wNopad_wOver:¬wNopad=wOver:=by decide
theorem ne_wNopad_wDrop:¬wNopad=wDrop:=by decide
theorem ne_wNopad_wAdd:¬wNopad=wAdd:=by decide
theorem ne_off_on:¬wOff=wOn:=by decide
theorem good_grp:Good grpS where
 marker:=by
  intro p b r
  refine grpS_of ?_
  cases b<;>simp[grpR,ne_wMarker_wType,ne_wMarker_wSeq,ne_wMarker_wTime,ne_wMarker_wSsrc,ne_wMarker_wMap,ne_wMarker_wOver,ne_wMarker_wDrop,ne_wMarker_wAdd,ne_wMarker_wNopad,ne_off_on]
 type:=by
  intro p n r h0 h1
  refine grpS_of ?_
  simp[grpR,ne_wType_wMarker,ne_wType_wSeq,ne_wType_wTime,ne_wType_wSsrc,ne_wType_wMap,ne_wType_wOver,ne_wType_wDrop,ne_wType_wAdd,ne_wType_wNopad,numR_num 255 n h0 h1,Int.toNat_of_nonneg h0]
 seq:=by
  intro p n r h0 h1
  refine grpS_of ?_
  simp[grpR,ne_wSeq_wMarker,ne_wSeq_wType,ne_wSeq_wTime,ne_wSeq_wSsrc,ne_wSeq_wMap,ne_wSeq_wOver,ne_wSeq_wDrop,ne_wSeq_wAdd,ne_wSeq_wNopad,numR_num 65535 n h0 (by omega),Int.toNat_of_nonneg h0]
 time:=by
  intro p n r h0 h1
  refine grpS_of ?_
  simp[grpR,ne_wTime_wMarker,ne_wTime_wType,ne_wTime_wSeq,ne_wTime_wSsrc,ne_wTime_wMap,ne_wTime_wOver,ne_wTime_wDrop,ne_wTime_wAdd,ne_wTime_wNopad,numR_num 4294967295 n h0 (by omega),Int.toNat_of_nonneg h0]
 ssrc:=by
  intro p n r h0 h1
  refine grpS_of ?_
  simp[grpR,ne_wSsrc_wMarker,ne_wSsrc_wType,ne_wSsrc_wSeq,ne_wSsrc_wTime,ne_wSsrc_wMap,ne_wSsrc_wOver,ne_wSsrc_wDrop,ne_wSsrc_wAdd,ne_wSsrc_wNopad,numR_num 4294967295 n h0 (by omega),Int.toNat_of_nonneg h0]
 map:=by
  intro p a b r a0 a1 b0 b1
  refine grpS_of ?_
  simp[grpR,ne_wMap_wMarker,ne_wMap_wType,ne_wMap_wSeq,ne_wMap_wTime,ne_wMap_wSsrc,ne_wMap_wOver,ne_wMap_wDrop,ne_wMap_wAdd,ne_wMap_wNopad,numR_num 255 a a0 a1,numR_num 255 b b0 b1,Int.toNat_of_nonneg a0,Int.toNat_of_nonneg b0]
 over:=by
  intro p a d r a0 a1
  refine grpS_of ?_
  simp[grpR,ne_wOver_wMarker,ne_wOver_wType,ne_wOver_wSeq,ne_wOver_wTime,ne_wOver_wSsrc,ne_wOver_wMap,ne_wOver_wDrop,ne_wOver_wAdd,ne_wOver_wNopad,numR_num 255 a a0 a1,Int.toNat_of_nonneg a0,unqL_qs]
 drop:=by
  intro p a r a0 a1
  refine grpS_of ?_
  simp[grpR,ne_wDrop_wMarker,ne_wDrop_wType,ne_wDrop_wSeq,ne_wDrop_wTime,ne_wDrop_wSsrc,ne_wDrop_wMap,ne_wDrop_wOver,ne_wDrop_wAdd,ne_wDrop_wNopad,numR_num 255 a a0 a1,Int.toNat_of_nonneg a0]
 add:=by
  intro p a d r a0 a1
  refine grpS_of ?_
  simp[grpR,ne_wAdd_wMarker,ne_wAdd_wType,ne_wAdd_wSeq,ne_wAdd_wTime,ne_wAdd_wSsrc,ne_wAdd_wMap,ne_wAdd_wOver,ne_wAdd_wDrop,ne_wAdd_wNopad,numR_num 255 a a0 a1,Int.toNat_of_nonneg a0,unqL_qs]
 nopad:=by
  intro p r
  refine grpS_of ?_
  simp[grpR,ne_wNopad_wMarker,ne_wNopad_wType,ne_wNopad_wSeq,ne_wNopad_wTime,ne_wNopad_wSsrc,ne_wNopad_wMap,ne_wNopad_wOver,ne_wNopad_wDrop,ne_wNopad_wAdd]
/-- What a group keeps: the numbers' bounds, the lists' lengths, and that the words behind are the words' tail. -/
def lens (p:Pl):Nat:=p.maps.length+p.over.length+p.drops.length+p.adds.length
theorem numR_le (most:Nat) (w:List UInt8):(numR most w).1≤most:=numGo_le most _ _ (Nat.zero_le _)
theorem grp_cases (p:Pl) (ws:Wds) (wr:Bool) (Q:Pl×Wds×Bool→Prop) 
  (h1:Q ({p with sm:=true,m:=decide (ws.tail.headD []=wOn)},ws.tail.tail,(wr||ws.isEmpty||ws.tail.isEmpty)||(decide (ws.tail.headD []≠wOn)&&decide (ws.tail.headD []≠wOff))))
  (h2:Q ({p with st:=true,ty:=(numR 255 (ws.tail.headD [])).1},ws.tail.tail,(wr||ws.isEmpty||ws.tail.isEmpty)||(numR 255 (ws.tail.headD [])).2))
  (h3:Q ({p with sq:=true,seq:=(numR 65535 (ws.tail.headD [])).1},ws.tail.tail,(wr||ws.isEmpty||ws.tail.isEmpty)||(numR 65535 (ws.tail.headD [])).2))
  (h4:Q ({p with stm:=true,time:=(numR 4294967295 (ws.tail.headD [])).1},ws.tail.tail,(wr||ws.isEmpty||ws.tail.isEmpty)||(numR 4294967295 (ws.tail.headD [])).2))
  (h5:Q ({p with ss:=true,ssrc:=(numR 4294967295 (ws.tail.headD [])).1},ws.tail.tail,(wr||ws.isEmpty||ws.tail.isEmpty)||(numR 4294967295 (ws.tail.headD [])).2))
  (h6:Q ({p with maps:=p.maps++ [⟨(numR 255 (ws.tail.headD [])).1,(numR 255 (ws.tail.tail.headD [])).1⟩]},ws.tail.tail.tail,(((wr||ws.isEmpty||ws.tail.isEmpty)||(numR 255 (ws.tail.headD [])).2)||ws.tail.tail.isEmpty)||(numR 255 (ws.tail.tail.headD [])).2))
  (h7:Q ({p with over:=p.over++ [⟨(numR 255 (ws.tail.headD [])).1,(unqL (ws.tail.tail.headD [])).getD []⟩]},ws.tail.tail.tail,(((wr||ws.isEmpty||ws.tail.isEmpty)||(numR 255 (ws.tail.headD [])).2)||ws.tail.tail.isEmpty)|| !(unqL (ws.tail.tail.headD [])).isSome))
  (h8:Q ({p with drops:=p.drops++ [((numR 255 (ws.tail.headD [])).1:Int)]},ws.tail.tail,(wr||ws.isEmpty||ws.tail.isEmpty)||(numR 255 (ws.tail.headD [])).2))
  (h9:Q ({p with adds:=p.adds++ [⟨(numR 255 (ws.tail.headD [])).1,(unqL (ws.tail.tail.headD [])).getD []⟩]},ws.tail.tail.tail,(((wr||ws.isEmpty||ws.tail.isEmpty)||(numR 255 (ws.tail.headD [])).2)||ws.tail.tail.isEmpty)|| !(unqL (ws.tail.tail.headD [])).isSome))
  (h10:Q ({p with np:=true},ws.tail,wr||ws.isEmpty))
  (h0:Q (p,ws.tail,true)):Q (grpR p ws wr):=by
 unfold grpR
 dsimp only
 by_cases c1:ws.headD []=wMarker
 ·rw[if_pos c1];exact h1
 rw[if_neg c1]
 by_cases c2:ws.headD []=wType
 ·rw[if_pos c2];exact h2
 rw[if_neg c2]
 by_cases c3:ws.headD []=wSeq
 ·rw[if_pos c3];exact h3
 rw[if_neg c3]
 by_cases c4:ws.headD []=wTime
 ·rw[if_pos c4];exact h4
 rw[if_neg c4]
 by_cases c5:ws.headD []=wSsrc
 ·rw[if_pos c5];exact h5
 rw[if_neg c5]
 by_cases c6:ws.headD []=wMap
 ·rw[if_pos c6];exact h6
 rw[if_neg c6]
 by_cases c7:ws.headD []=wOver
 ·rw[if_pos c7];exact h7
 rw[if_neg c7]
 by_cases c8:ws.headD []=wDrop
 ·rw[if_pos c8];exact h8
 rw[if_neg c8]
 by_cases c9:ws.headD []=wAdd
 ·rw[if_pos c9];exact h9
 rw[if_neg c9]
 by_cases c10:ws.headD []=wNopad
 ·rw[if_pos c10];exact h10
 rw[if_neg c10]
 exact h0
theorem grp_num (p:Pl) (ws:Wds) (wr:Bool) (h:plNum p):plNum (grpR p ws wr).1:=by
 obtain ⟨n1,n2,n3,n4,n5,n6⟩:=h
 have a1:=numR_le 65535 (ws.tail.headD [])
 have a2:=numR_le 4294967295 (ws.tail.headD [])
 refine grp_cases p ws wr (fun G=>plNum G.1) ?_ ?_ ?_ ?_ ?_ ?_ ?_ ?_ ?_ ?_ ?_
 all_goals (unfold plNum;(try simp only);omega)
theorem grp_lens (p:Pl) (ws:Wds) (wr:Bool) (h:ws≠[]):lens (grpR p ws wr).1+(grpR p ws wr).2.1.length≤lens p+ws.length∧(grpR p ws wr).2.1.length<ws.length:=by
 have hl:0<ws.length:=List.length_pos_iff.2 h
 by_cases h1:ws.length=1
 all_goals
  refine grp_cases p ws wr (fun G=>lens G.1+G.2.1.length≤lens p+ws.length∧G.2.1.length<ws.length) ?_ ?_ ?_ ?_ ?_ ?_ ?_ ?_ ?_ ?_ ?_
  all_goals (unfold lens;(try simp only[List.length_append,List.length_singleton,List.length_tail]);omega)
theorem grp_rest (p:Pl) (ws:Wds) (wr:Bool):(grpR p ws wr).2.1=ws.tail∨(grpR p ws wr).2.1=ws.tail.tail∨(grpR p ws wr).2.1=ws.tail.tail.tail:=by
 refine grp_cases p ws wr (fun G=>G.2.1=ws.tail∨G.2.1=ws.tail.tail∨G.2.1=ws.tail.tail.tail) ?_ ?_ ?_ ?_ ?_ ?_ ?_ ?_ ?_ ?_ ?_
 all_goals simp
theorem grp_mem (p:Pl) (ws:Wds) (wr:Bool):∀w∈(grpR p ws wr).2.1,w∈ws:=by
 intro w hw
 rcases grp_rest p ws wr with h|h|h<;>rw[h] at hw
 ·exact List.mem_of_mem_tail hw
 ·exact List.mem_of_mem_tail (List.mem_of_mem_tail hw)
 ·exact List.mem_of_mem_tail (List.mem_of_mem_tail (List.mem_of_mem_tail hw))
theorem grpS_num (p:Pl) (ws:Wds) (q:Pl) (r:Wds) (h:grpS p ws=some (q,r)) (hp:plNum p):plNum q:=by
 unfold grpS at h
 split at h
 ·cases h
 ·cases h
  exact grp_num p ws false hp
end Go.Vc

set_option maxRecDepth 100000
namespace Go.Vc
open Go Go.Proofs Go.Plain
open Go.Lib (decDigits nDigits)
theorem qs_len2 (l:List UInt8):(qs l).length≤3*l.length+2:=by
 have key:((chunks l).flatMap qc).length≤3*l.length:=by
  induction l using lenInd with
  |nil=>rw[chunks_nil];simp
  |step l hne ih=>
   rw[chunks_ne hne,List.flatMap_cons,List.length_append]
   have h2:=rwid_le hne
   have hp:=rwid_pos l
   have h1:(qc (l.take (rwid l))).length≤3*rwid l:=by
    rcases qc_cases hne with ⟨_,r2,_,r4⟩|⟨_,r2,r4⟩|⟨_,_,r4⟩
    ·rw[r4,r2];simp
    ·rw[r4,r2];simp
    ·rw[r4,List.length_take];omega
   rw[List.length_drop] at ih
   omega
 unfold qs
 simp only[List.length_cons,List.length_append,List.length_nil]
 omega
theorem flatW_cons (w:List UInt8) (r:Wds):(flatW (w::r)).length=w.length+1+(flatW r).length:=by
 unfold flatW
 simp only[List.flatMap_cons,List.length_append,List.length_cons]
theorem flatW_nil:(flatW ([]:Wds)).length=0:=rfl
theorem numI_len {n:Int} (h:n<4294967296):(numI n).length≤10:=(dec_len (by omega)).2
theorem kw_len:wMarker.length=6∧wOn.length=2∧wOff.length=3∧wType.length=4∧wSeq.length=3∧wTime.length=4∧wSsrc.length=4∧wMap.length=3∧wOver.length=4∧wDrop.length=4∧wAdd.length=3∧wNopad.length=5:=by decide
theorem fl1 (p:Pl):(flatW (tk1 p)).length≤11:=by
 obtain ⟨k1,k2,k3,_⟩:=kw_len
 unfold tk1
 split
 ·split<;>simp only[flatW_cons,flatW_nil]<;>omega
 ·exact by simp[flatW]
theorem fl2 (p:Pl) (h:p.ty<4294967296):(flatW (tk2 p)).length≤16:=by
 have:=numI_len h
 have:=kw_len
 unfold tk2
 split
 ·simp only[flatW_cons,flatW_nil];omega
 ·exact by simp[flatW]
theorem fl3 (p:Pl) (h:p.seq<4294967296):(flatW (tk3 p)).length≤16:=by
 have:=numI_len h
 have:=kw_len
 unfold tk3
 split
 ·simp only[flatW_cons,flatW_nil];omega
 ·exact by simp[flatW]
theorem fl4 (p:Pl) (h:p.time<4294967296):(flatW (tk4 p)).length≤16:=by
 have:=numI_len h
 have:=kw_len
 unfold tk4
 split
 ·simp only[flatW_cons,flatW_nil];omega
 ·exact by simp[flatW]
theorem fl5 (p:Pl) (h:p.ssrc<4294967296):(flatW (tk5 p)).length≤16:=by
 have:=numI_len h
 have:=kw_len
 unfold tk5
 split
 ·simp only[flatW_cons,flatW_nil];omega
 ·exact by simp[flatW]
theorem flM:∀(l:List Mp),(∀m∈l,1≤m.fr∧m.fr≤255∧1≤m.to∧m.to≤255)→(flatW (tkM l)).length≤26*l.length
 | [],_=>Nat.le_refl _
 |m::l,h=>by
  obtain ⟨h1,h2,h3,h4⟩:=h m (by simp)
  have:=numI_len (n:=m.fr) (by omega)
  have:=numI_len (n:=m.to) (by omega)
  have:=kw_len
  have ih:=flM l (fun m hm=>h m (by simp[hm]))
  rw[show tkM (m::l)=wMap::numI m.fr::numI m.to::tkM l from rfl,flatW_cons,flatW_cons,flatW_cons,List.length_cons]
  omega
theorem flE (w:List UInt8) (hw:w.length≤4):∀(l:List El),(∀e∈l,1≤e.id∧e.id≤255∧e.data.length≤255)→(flatW (tkE w l)).length≤800*l.length
 | [],_=>Nat.le_refl _
 |m::l,h=>by
  obtain ⟨h1,h2,h3⟩:=h m (by simp)
  have:=numI_len (n:=m.id) (by omega)
  have:=qs_len2 m.data
  have ih:=flE w hw l (fun m hm=>h m (by simp[hm]))
  rw[show tkE w (m::l)=w::numI m.id::qs m.data::tkE w l from rfl,flatW_cons,flatW_cons,flatW_cons,List.length_cons]
  omega
theorem flD:∀(l:List Int),(∀d∈l,1≤d∧d≤255)→(flatW (tkD l)).length≤26*l.length
 | [],_=>Nat.le_refl _
 |m::l,h=>by
  obtain ⟨h1,h2⟩:=h m (by simp)
  have:=numI_len (n:=m) (by omega)
  have:=kw_len
  have ih:=flD l (fun m hm=>h m (by simp[hm]))
  rw[show tkD (m::l)=wDrop::numI m::tkD l from rfl,flatW_cons,flatW_cons,List.length_cons]
  omega
theorem flN (p:Pl):(flatW (tkN p)).length≤6:=by
 unfold tkN
 split
 ·exact by decide
 ·exact by simp[flatW]
theorem flat_le (p:Pl) (hp:plRight p) (hn:plNum p):(flatW (toks p)).length≤100+26*p.maps.length+800*p.over.length+26*p.drops.length+800*p.adds.length:=by
 obtain ⟨⟨_,_,_,_,_,t0,t1⟩,r1,r2,r3,r4,r5,_⟩:=hp
 obtain ⟨n1,n2,n3,n4,n5,n6⟩:=hn
 have a1:=fl1 p
 have a2:=fl2 p (by omega)
 have a3:=fl3 p (by omega)
 have a4:=fl4 p (by omega)
 have a5:=fl5 p (by omega)
 have a6:=flM p.maps fun m hm=>by
  have a1:=ids_lt r1 m.fr (List.mem_map.2 ⟨m,hm,rfl⟩)
  have a2:=ids_lt r2 m.to (List.mem_map.2 ⟨m,hm,rfl⟩)
  exact ⟨a1.1,a1.2,a2.1,a2.2⟩
 have a7:=flE wOver (by decide) p.over (els_lt r4)
 have a8:=flD p.drops (ids_lt r3)
 have a9:=flE wAdd (by decide) p.adds (els_lt r5)
 have a10:=flN p
 unfold toks
 simp only[flatW_app,List.length_append]
 omega
theorem print_le (p:Pl) (hp:plRight p) (hn:plNum p):(printL p).length≤100+26*p.maps.length+800*p.over.length+26*p.drops.length+800*p.adds.length:=by
 have:=flat_le p hp hn
 unfold printL
 rw[←flatW_tail,List.length_drop]
 omega
theorem tkM_snoc {l:List Mp} {i:Nat} (hi:i<l.length):tkM (l.take (i+1))=tkM (l.take i)++ [wMap,numI (l.getD i Mp.zero).fr,numI (l.getD i Mp.zero).to]:=by
 have e:l.getD i Mp.zero=l[i]:=by simp[List.getD,hi]
 rw[e,List.take_succ_eq_append_getElem hi]
 unfold tkM
 rw[List.flatMap_append]
 rfl
theorem tkE_snoc {w:List UInt8} {l:List El} {i:Nat} (hi:i<l.length):tkE w (l.take (i+1))=tkE w (l.take i)++ [w,numI (l.getD i El.zero).id,qs (l.getD i El.zero).data]:=by
 have e:l.getD i El.zero=l[i]:=by simp[List.getD,hi]
 rw[e,List.take_succ_eq_append_getElem hi]
 unfold tkE
 rw[List.flatMap_append]
 rfl
theorem tkD_snoc {l:List Int} {i:Nat} (hi:i<l.length):tkD (l.take (i+1))=tkD (l.take i)++ [wDrop,numI (l.getD i 0)]:=by
 have e:l.getD i 0=l[i]:=by simp[List.getD,hi]
 rw[e,List.take_succ_eq_append_getElem hi]
 unfold tkD
 rw[List.flatMap_append]
 rfl
theorem tkM_len:∀l:List Mp,(tkM l).length=3*l.length
 | []=>rfl
 |m::l=>by rw[show tkM (m::l)=wMap::numI m.fr::numI m.to::tkM l from rfl,List.length_cons,List.length_cons,List.length_cons,tkM_len l,List.length_cons];omega
theorem tkE_len (w:List UInt8):∀l:List El,(tkE w l).length=3*l.length
 | []=>rfl
 |m::l=>by rw[show tkE w (m::l)=w::numI m.id::qs m.data::tkE w l from rfl,List.length_cons,List.length_cons,List.length_cons,tkE_len w l,List.length_cons];omega
theorem tkD_len:∀l:List Int,(tkD l).length=2*l.length
 | []=>rfl
 |m::l=>by rw[show tkD (m::l)=wDrop::numI m::tkD l from rfl,List.length_cons,List.length_cons,tkD_len l,List.length_cons];omega
theorem tk_lens (p:Pl):(tk1 p).length≤2∧(tk2 p).length≤2∧(tk3 p).length≤2∧(tk4 p).length≤2∧(tk5 p).length≤2∧(tkN p).length≤1:=by
 unfold tk1 tk2 tk3 tk4 tk5 tkN
 refine ⟨?_,?_,?_,?_,?_,?_⟩<;>split<;>simp
theorem pc_say_Print (p:Pl) (hf:plFew p) (hn:plNum p):PC Tryz.prog f_say_Print [(PlSh,PlC p)] [(.str,.str (if plRight p then printL p else [])),(I64,.int (if plRight p then 0 else 1))]:=by
 have hf0:=hf
 obtain ⟨e1,e2,e3,e4⟩:=hf
 have hn0:=hn
 obtain ⟨n1,n2,n3,n4,n5,n6⟩:=hn
 obtain ⟨l1,l2,l3,l4,l5,lN⟩:=tk_lens p
 apply pcv_say_Print rfl
 simp only[vc_say_Print,sVC,sEV,sENV,sVAL,sBO,forall_const,List.length_map]
 refine ⟨_,pc_plan_Right p hf0,fun h=>?_,fun h=>?_⟩
 ·have hr:¬plRight p:=by simpa using h
  rw[if_neg hr,if_neg hr]
 have hp:plRight p:=by simpa using h
 have hp0:=hp
 rw[if_pos hp,if_pos hp]
 obtain ⟨⟨_,_,_,_,_,t0,t1⟩,r1,r2,r3,r4,r5,_⟩:=hp
 refine VC.go_meet [.ls ((tk1 p).map .str)] ?_ ?_
 ·simp only[sVC,sEV,sENV,sVAL,sBO,forall_const,List.length_map]
  refine ⟨fun hb=>⟨by simp only[List.length_cons,List.length_nil];omega,?_⟩,fun hb=>⟨fun hc=>⟨by simp only[List.length_cons,List.length_nil];omega,?_⟩,fun hc=>?_⟩⟩
  ·unfold tk1;rw[if_pos hb.1,if_pos hb.2];rfl
  ·unfold tk1;rw[if_pos hc,if_neg (by rcases hb with hb|hb;exact absurd hc hb;simp[hb])];rfl
  ·unfold tk1;rw[if_neg (by simp[hc])];rfl
 refine VC.go_meet [.ls ((tk1 p++tk2 p).map .str)] ?_ ?_
 ·simp only[sVC,sEV,sENV,sVAL,sBO,forall_const,List.length_map]
  refine ⟨fun hb=>⟨_,pc_digits p.ty t0 (by omega),by simp only[List.length_cons,List.length_nil,List.length_append];omega,?_⟩,fun hb=>?_⟩
  ·unfold tk2;rw[if_pos hb];simp only[List.map_append,List.append_assoc];rfl
  ·unfold tk2;rw[if_neg (by simp[hb]),List.append_nil]
 refine VC.go_meet [.ls ((tk1 p++tk2 p++tk3 p).map .str)] ?_ ?_
 ·simp only[sVC,sEV,sENV,sVAL,sBO,forall_const,List.length_map]
  refine ⟨fun hb=>⟨_,pc_digits16 p.seq n1 n2,by simp only[List.length_cons,List.length_nil,List.length_append];omega,?_⟩,fun hb=>?_⟩
  ·unfold tk3;rw[if_pos hb];simp only[List.map_append,List.append_assoc];rfl
  ·unfold tk3;rw[if_neg (by simp[hb]),List.append_nil]
 refine VC.go_meet [.ls ((tk1 p++tk2 p++tk3 p++tk4 p).map .str)] ?_ ?_
 ·simp only[sVC,sEV,sENV,sVAL,sBO,forall_const,List.length_map]
  refine ⟨fun hb=>⟨_,pc_digits32 p.time n3 n4,by simp only[List.length_cons,List.length_nil,List.length_append];omega,?_⟩,fun hb=>?_⟩
  ·unfold tk4;rw[if_pos hb];simp only[List.map_append,List.append_assoc];rfl
  ·unfold tk4;rw[if_neg (by simp[hb]),List.append_nil]
 refine VC.go_meet [.ls ((tk1 p++tk2 p++tk3 p++tk4 p++tk5 p).map .str)] ?_ ?_
 ·simp only[sVC,sEV,sENV,sVAL,sBO,forall_const,List.length_map]
  refine ⟨fun hb=>⟨_,pc_digits32 p.ssrc n5 n6,by simp only[List.length_cons,List.length_nil,List.length_append];omega,?_⟩,fun hb=>?_⟩
  ·unfold tk5;rw[if_pos hb];simp only[List.map_append,List.append_assoc];rfl
  ·unfold tk5;rw[if_neg (by simp[hb]),List.append_nil]
 obtain ⟨T,hT⟩:∃T,tk1 p++tk2 p++tk3 p++tk4 p++tk5 p=T:=⟨_,rfl⟩
 have lT:T.length≤10:=by rw[←hT];simp only[List.length_append];omega
 rw[hT]
 have hm:∀m∈p.maps,1≤m.fr∧m.fr≤255∧1≤m.to∧m.to≤255:=fun m hm=>by
  have a1:=ids_lt r1 m.fr (List.mem_map.2 ⟨m,hm,rfl⟩)
  have a2:=ids_lt r2 m.to (List.mem_map.2 ⟨m,hm,rfl⟩)
  exact ⟨a1.1,a1.2,a2.1,a2.2⟩
 have ho:=els_lt r4
 have ha:=els_lt r5
 have hd:=ids_lt r3
 refine VC.go_loop (fun i:Nat=> [.ls ((T++tkM (p.maps.take i)).map .str),.int (i:Int)]) (fun i=>i≤p.maps.length) (fun i=>p.maps.length-i) 0 (by rw[List.take_zero,show tkM []=[] from rfl,List.append_nil];rfl) (Nat.zero_le _) fun i hi=>?_
 have lL:=tkM_len (p.maps.take i)
 rw[List.length_take] at lL
 simp only[sVC,sEV,sENV,sVAL,sBO,forall_const,List.length_map,List.length_append]
 refine ⟨fun hc=>?_,fun hc=>?_⟩
 ·have hk:i<p.maps.length:=by omega
  have hm:=hm _ (List.getElem_mem hk)
  have e:p.maps.getD i Mp.zero=p.maps[i]:=by simp[List.getD,hk]
  rw[Int.toNat_natCast,mp_getD p.maps i hk,e]
  refine ⟨by omega,by omega,_,pc_digits p.maps[i].fr (by omega) (by omega),_,pc_digits p.maps[i].to (by omega) (by omega),by simp only[List.length_cons,List.length_nil];omega,by omega,i+1,?_,by omega,by omega⟩
  rw[tkM_snoc hk,e]
  simp only[List.map_append,List.append_assoc]
  rfl
 obtain rfl:i=p.maps.length:=by omega
 rw[List.take_length] at lL ⊢
 obtain ⟨T2,hT2⟩:∃T2,T++tkM p.maps=T2:=⟨_,rfl⟩
 have lT2:T2.length≤3000010:=by rw[←hT2];simp only[List.length_append];omega
 simp only[←List.map_append,hT2]
 refine VC.go_loop (fun i:Nat=> [.ls ((T2++tkE wOver (p.over.take i)).map .str),.int (i:Int)]) (fun i=>i≤p.over.length) (fun i=>p.over.length-i) 0 (by rw[List.take_zero,show tkE wOver []=[] from rfl,List.append_nil];rfl) (Nat.zero_le _) fun i hi=>?_
 have lL:=tkE_len wOver (p.over.take i)
 rw[List.length_take] at lL
 simp only[sVC,sEV,sENV,sVAL,sBO,forall_const,List.length_map,List.length_append]
 refine ⟨fun hc=>?_,fun hc=>?_⟩
 ·have hk:i<p.over.length:=by omega
  have hm:=ho _ (List.getElem_mem hk)
  have e:p.over.getD i El.zero=p.over[i]:=by simp[List.getD,hk]
  rw[el_getD p.over i hk,e]
  simp only[v_hd,v_tl,v_ls,v_int,bytesOf_ofBytes]
  refine ⟨by omega,by omega,_,pc_digits p.over[i].id (by omega) (by omega),_,pc_quoted p.over[i].data (by omega),by simp only[List.length_cons,List.length_nil];omega,by omega,i+1,?_,by omega,by omega⟩
  rw[tkE_snoc hk,e]
  simp only[List.map_append,List.append_assoc]
  rfl
 obtain rfl:i=p.over.length:=by omega
 rw[List.take_length] at lL ⊢
 obtain ⟨T3,hT3⟩:∃T3,T2++tkE wOver p.over=T3:=⟨_,rfl⟩
 have lT3:T3.length≤6000010:=by rw[←hT3];simp only[List.length_append];omega
 simp only[←List.map_append,hT3]
 refine VC.go_loop (fun i:Nat=> [.ls ((T3++tkD (p.drops.take i)).map .str),.int (i:Int)]) (fun i=>i≤p.drops.length) (fun i=>p.drops.length-i) 0 (by rw[List.take_zero,show tkD []=[] from rfl,List.append_nil];rfl) (Nat.zero_le _) fun i hi=>?_
 have lL:=tkD_len (p.drops.take i)
 rw[List.length_take] at lL
 simp only[sVC,sEV,sENV,sVAL,sBO,forall_const,List.length_map,List.length_append]
 refine ⟨fun hc=>?_,fun hc=>?_⟩
 ·have hk:i<p.drops.length:=by omega
  have hm:=hd _ (List.getElem_mem hk)
  have e:p.drops.getD i 0=p.drops[i]:=by simp[List.getD,hk]
  rw[Int.toNat_natCast,int_getD p.drops i hk,e]
  refine ⟨by omega,by omega,_,pc_digits p.drops[i] (by omega) (by omega),by simp only[List.length_cons,List.length_nil];omega,by omega,i+1,?_,by omega,by omega⟩
  rw[tkD_snoc hk,e]
  simp only[List.map_append,List.append_assoc]
  rfl
 obtain rfl:i=p.drops.length:=by omega
 rw[List.take_length] at lL ⊢
 obtain ⟨T4,hT4⟩:∃T4,T3++tkD p.drops=T4:=⟨_,rfl⟩
 have lT4:T4.length≤8000010:=by rw[←hT4];simp only[List.length_append];omega
 simp only[←List.map_append,hT4]
 refine VC.go_loop (fun i:Nat=> [.ls ((T4++tkE wAdd (p.adds.take i)).map .str),.int (i:Int)]) (fun i=>i≤p.adds.length) (fun i=>p.adds.length-i) 0 (by rw[List.take_zero,show tkE wAdd []=[] from rfl,List.append_nil];rfl) (Nat.zero_le _) fun i hi=>?_
 have lL:=tkE_len wAdd (p.adds.take i)
 rw[List.length_take] at lL
 simp only[sVC,sEV,sENV,sVAL,sBO,forall_const,List.length_map,List.length_append]
 refine ⟨fun hc=>?_,fun hc=>?_⟩
 ·have hk:i<p.adds.length:=by omega
  have hm:=ha _ (List.getElem_mem hk)
  have e:p.adds.getD i El.zero=p.adds[i]:=by simp[List.getD,hk]
  rw[el_getD p.adds i hk,e]
  simp only[v_hd,v_tl,v_ls,v_int,bytesOf_ofBytes]
  refine ⟨by omega,by omega,_,pc_digits p.adds[i].id (by omega) (by omega),_,pc_quoted p.adds[i].data (by omega),by simp only[List.length_cons,List.length_nil];omega,by omega,i+1,?_,by omega,by omega⟩
  rw[tkE_snoc hk,e]
  simp only[List.map_append,List.append_assoc]
  rfl
 obtain rfl:i=p.adds.length:=by omega
 rw[List.take_length] at lL ⊢
 obtain ⟨T5,hT5⟩:∃T5,T4++tkE wAdd p.adds=T5:=⟨_,rfl⟩
 have lT5:T5.length≤11000010:=by rw[←hT5];simp only[List.length_append];omega
 simp only[←List.map_append,hT5]
 have hall:T5++tkN p=toks p:=by
  rw[←hT5,←hT4,←hT3,←hT2,←hT]
  unfold toks
  simp only[List.append_assoc]
 refine VC.go_meet [.ls ((T5++tkN p).map .str)] ?_ ?_
 ·simp only[sVC,sEV,sENV,sVAL,sBO,forall_const,List.length_map]
  refine ⟨fun hb=>⟨by simp only[List.length_cons,List.length_nil];omega,?_⟩,fun hb=>?_⟩
  ·unfold tkN;rw[if_pos hb];simp only[List.map_append,List.append_assoc];rfl
  ·unfold tkN;rw[if_neg (by simp[hb]),List.append_nil]
 rw[hall]
 simp only[sVC,sEV,sENV,sVAL,sBO,forall_const]
 have hpl:=print_le p hp0 hn0
 refine ⟨_,pc_Join (toks p) (by rw[←hall];simp only[List.length_append];omega) (by change (printL p).length≤_;omega),rfl⟩
end Go.Vc

set_option maxRecDepth 100000
namespace Go.Vc
open Go Go.Proofs Go.RowKit Go.Plain
theorem rdrow_maps {W:World} {N:Nat→Prop}:∀l:List Mp,RdRow W N MpSh (mpCells l) (l.map MpC)
 | []=>rfl
 |m::l=>⟨[.int .i64 m.fr,.int .i64 m.to],mpCells l,rfl,⟨rfl,[.int .i64 m.fr],[.int .i64 m.to],rfl,rfl,rfl,[.int .i64 m.to],[],rfl,rfl,rfl⟩,rdrow_maps l⟩
theorem rdrow_ints {W:World} {N:Nat→Prop}:∀l:List Int,RdRow W N I64 (l.map (Value.int .i64 ·)) (l.map .int)
 | []=>rfl
 |m::l=>⟨[.int .i64 m],l.map (Value.int .i64 ·),rfl,rfl,rdrow_ints l⟩
theorem own_R {W:World} {lo:Nat} {e:TypeId} {size:Nat} {v:Value} {n:Nat} {xs:List Value} (h:W.ownsRow lo e size v n xs):W.ownsR (fun g=>lo≤g) e size v n xs:=h
theorem own_blk {W:World} {lo:Nat} {e:TypeId} {size:Nat} {v:Value} {n:Nat} {xs:List Value} (h:W.ownsRow lo e size v n xs):∀g,blkNo v=some g→lo≤g:=by
 intro g hg
 rcases h.2 with ⟨h0,_⟩|⟨g',cap,cur,h1,h2,_⟩
 ·rw[h0] at hg;cases hg
 ·rw[h1] at hg
  simp only[blkNo,Option.some.injEq] at hg
  omega
theorem own_slc {W:World} {lo:Nat} {e:TypeId} {size:Nat} {v:Value} {n:Nat} {xs:List Value} (h:W.ownsRow lo e size v n xs):∃a l c,v= .slice a l c:=by
 rcases h.2 with ⟨h0,_⟩|⟨g',cap,cur,h1,h2,_⟩
 ·exact ⟨_,_,_,h0⟩
 ·exact ⟨_,_,_,h1⟩
theorem rd_plan {W:World} {lo pb rb:Nat} {p:Pl} (h:PlanAt W lo pb rb p):∃vm vo vd va,W.heap[pb]?=some (.cells (plRowV p vm vo vd va) 29 (0,0))∧Rd W (fun b=>lo≤b) PlSh (plRowV p vm vo vd va).toList (PlC p)∧(∃a l c,vm= .slice a l c)∧(∃a l c,vo= .slice a l c)∧(∃a l c,vd= .slice a l c)∧(∃a l c,va= .slice a l c):=by
 obtain ⟨vm,vo,vd,va,xo,xa,h1,h2,h3,h4,o1,o2,o3,o4,r1,r2,d,n1,n2,n3,n4⟩:=h
 refine ⟨vm,vo,vd,va,h1,?_,own_slc o1,own_slc o2,own_slc o3,own_slc o4⟩
 have a1:Rd W (fun b=>lo≤b) (.sl MpSh) [vm] (Mps p.maps):=rd_own (xs:=mpCells p.maps) (et:=127) (B:=fun g=>lo≤g) (by rw[show (Mps p.maps).toList.length=p.maps.length by simp[Mps]];exact own_R o1) (rdrow_maps p.maps) (own_blk o1)
 have a2:Rd W (fun b=>lo≤b) (.sl ElSh) [vo] (Els p.over):=rd_own (xs:=xo) (et:=103) (B:=fun g=>lo≤g) (by rw[show (Els p.over).toList.length=p.over.length by simp[Els]];exact own_R o2) (r1.mono (Nat.le_refl _) fun b hb _=>⟨rfl,hb.1⟩) (own_blk o2)
 have a3:Rd W (fun b=>lo≤b) (.sl I64) [vd] (Ints p.drops):=rd_own (xs:=p.drops.map (Value.int .i64 ·)) (et:=3) (B:=fun g=>lo≤g) (by rw[show (Ints p.drops).toList.length=p.drops.length by simp[Ints]];exact own_R o3) (rdrow_ints p.drops) (own_blk o3)
 have a4:Rd W (fun b=>lo≤b) (.sl ElSh) [va] (Els p.adds):=rd_own (xs:=xa) (et:=103) (B:=fun g=>lo≤g) (by rw[show (Els p.adds).toList.length=p.adds.length by simp[Els]];exact own_R o4) (r2.mono (Nat.le_refl _) fun b hb _=>⟨rfl,hb.1⟩) (own_blk o4)
 exact ⟨rfl,[_],_,rfl,rfl,rfl,[_],_,rfl,rfl,rfl,[_],_,rfl,rfl,rfl,[_],_,rfl,rfl,rfl,[_],_,rfl,rfl,rfl,[_],_,rfl,rfl,rfl,[_],_,rfl,rfl,rfl,[_],_,rfl,rfl,rfl,[_],_,rfl,rfl,rfl,[_],_,rfl,rfl,
  rfl,[vm],_,rfl,a1,rfl,[vo],_,rfl,a2,rfl,[vd],_,rfl,a3,rfl,[va],_,rfl,a4,rfl,[_],[],rfl,rfl,rfl⟩
abbrev zeroCells:Array Value:=plRowV Pl.zero (.slice none 0 0) (.slice none 0 0) (.slice none 0 0) (.slice none 0 0)
theorem rd_zero (W:World) (N:Nat→Prop):Rd W N PlSh zeroCells.toList (PlC Pl.zero):=by
 have a:∀s,Rd W N (.sl s) [.slice none 0 0] (.ls []):=fun s=>⟨none,0,rfl,Nat.le_refl _,Nat.zero_le _,fun h=>absurd rfl h⟩
 exact ⟨rfl,[_],_,rfl,rfl,rfl,[_],_,rfl,rfl,rfl,[_],_,rfl,rfl,rfl,[_],_,rfl,rfl,rfl,[_],_,rfl,rfl,rfl,[_],_,rfl,rfl,rfl,[_],_,rfl,rfl,rfl,[_],_,rfl,rfl,rfl,[_],_,rfl,rfl,rfl,[_],_,rfl,rfl,
  rfl,[_],_,rfl,a _,rfl,[_],_,rfl,a _,rfl,[_],_,rfl,a _,rfl,[_],_,rfl,a _,rfl,[_],[],rfl,rfl,rfl⟩
theorem zero_plan (W:World) (lo pb rb:Nat) (h1:lo≤pb) (h2:lo≤rb) (h3:pb≠rb) (h:W.heap[pb]?=some (.cells zeroCells 29 (0,0))):PlanAt W lo pb rb Pl.zero:=
 ⟨.slice none 0 0,.slice none 0 0,.slice none 0 0,.slice none 0 0,[],[],h,h1,h2,h3,World.ownsRow_nil _ _ _ _,World.ownsRow_nil _ _ _ _,World.ownsRow_nil _ _ _ _,World.ownsRow_nil _ _ _ _,rfl,rfl,(fun g h=>by cases h),by simp[Value.ownBlock],by simp[Value.ownBlock],by simp[Value.ownBlock],by simp[Value.ownBlock]⟩
/-- The call of Print. -/
theorem print_call {W:World} (hkw:KW Tryz.prog W) {lo pb rb:Nat} {p:Pl} (hf:plFew p) (hn:plNum p) {cs:Array Value} (h:Rd W (fun b=>lo≤b) PlSh cs.toList (PlC p)):
  Calls Tryz.prog 20 #[.agg cs] W fun e W'=>e= .returned (.tuple #[.string ⟨(if plRight p then printL p else []).toArray⟩,.int .i64 (if plRight p then 0 else 1)])∧Below W.heap.size W W':=by
 have hc:=((pc_say_Print p hf hn).to0 (by decide)).2 W (fun b=>lo≤b) [.agg cs] hkw ⟨_,_,rfl,⟨cs.toList,h,by simp[Sh.mk,Sh.isAgg]⟩,rfl⟩
 refine hc.mono fun e w' ⟨v,he,⟨vs,⟨v1,r1,hv1,⟨us,hu,hv2⟩,v3,r3,hv3,⟨us2,hu2,hv4⟩,hr⟩,hv⟩,hb⟩=>⟨?_,hb⟩
 simp only[RdVs] at hr
 subst hr
 simp only[Rd] at hu hu2
 subst hu hu2
 subst hv1 hv3
 simp[Sh.mk,Sh.isAgg] at hv2 hv4
 subst hv2 hv4
 simp at hv
 rw[he,hv]
/-- The call of Words. -/
theorem words_call (s:List UInt8) (hs:s.length≤1000000) (w:World) (hkw:KW Tryz.prog w):
  Calls Tryz.prog 49 #[.string ⟨s.toArray⟩] w fun e w'=>∃sv,e= .returned (.tuple #[sv,.int .i64 (wdE (wordsL s))])∧(∀lo rb,w'.heap.size≤lo→lo≤rb→WordsAt w' lo rb sv ((wordsL s).getD []))∧Below w.heap.size w w':=by
 have h:=((pc_text_Words s hs).to0 (by decide)).2 w (fun _=>True) [.string ⟨s.toArray⟩] hkw ⟨_,_,rfl,⟨[.string ⟨s.toArray⟩],rfl,rfl⟩,rfl⟩
 refine h.mono fun e w' ⟨v,he,⟨vs,⟨v1,r1,hv1,⟨us,hu,hv2⟩,v3,r3,hv3,⟨us2,hu2,hv4⟩,hr⟩,hv⟩,hb⟩=>?_
 simp only[RdVs] at hr
 subst hr
 simp only[Rd] at hu2
 obtain ⟨a,cap,e1,e2,e3,e4⟩:=hu
 subst e1 hu2
 subst hv1 hv3
 simp[Sh.mk,Sh.isAgg] at hv2 hv4
 subst hv2 hv4
 simp at hv
 have el:(C.ls (wdB (wordsL s))).toList.length=((wordsL s).getD []).length:=by simp[wdB]
 have el2:(wdB (wordsL s)).length=((wordsL s).getD []).length:=by simp[wdB]
 rw[el] at e2
 rw[el2] at hv
 refine ⟨_,by rw[he,hv],fun lo rb h1 h2=>⟨a,cap,rfl,e2,e3,fun hne=>?_⟩,hb⟩
 obtain ⟨b,off,ea,_,hlt,hat⟩:=e4 (by simpa [wdB] using hne)
 refine ⟨b,off,ea,by omega,by omega,fun j x hx=>?_⟩
 obtain ⟨us,hl,hcs,hr⟩:=hat j (.str x) (by simp[wdB,hx])
 change us=[.string ⟨x.toArray⟩] at hr
 subst hr
 have h3:=hcs 0 (.string ⟨x.toArray⟩) rfl
 have e3:off+j*Sh.size .str+0=off+j:=by simp[Sh.size]
 rw[e3] at h3
 exact h3
theorem results_row_tmp {P:Program} {fn:Func} {p u:Tmp} {ty:TypeId} (h:fn.results= #[.cell p ty,.tmp u]) (tmps:Array Value) (w:World) (g:Nat) (t:TypeId) (cs:Array Value) (fr:Nat×Nat) (d:TypeDesc)
  (hp:tmps.getD p undef= .pointer (some ⟨g,0,none⟩)) (hg:w.heap[g]?=some (.cells cs t fr))
  (hu:P.underlying ty=some d) (hd:(match d with| .struct _| .array _ _=>true|_=>false)=true) (hi:(P.info? ty).map (·.size)=some cs.size) (v:Value) (hv:tmps.getD u undef=v):
  (results fn tmps).run P w= .ok (.tuple #[.agg cs,v]) w:=by
 have hp':tmps[p]?.getD undef= .pointer (some ⟨g,0,none⟩):=by simpa using hp
 have hv':tmps[u]?.getD undef=v:=by simpa using hv
 simp[results,h,hp',hv',asAddr,run_loadVar_row w g t ty cs fr d hg hu hd hi]
end Go.Vc

set_option maxRecDepth 100000
namespace Go.Vc
open Go Go.Proofs Go.Plain
open Go.Lib (decDigits nDigits)
theorem joinSp_ge:∀ {ws:Wds},(∀w∈ws,w≠[])→ws.length≤(joinSp ws).length∧∀w∈ws,w.length≤(joinSp ws).length
 | [],_=>⟨Nat.le_refl _,fun w h=>by cases h⟩
 | [w],h=>by
  have:=List.length_pos_iff.2 (h w (by simp))
  refine ⟨by simp[joinSp];omega,fun v hv=>?_⟩
  rw[List.mem_singleton] at hv
  rw[hv]
  exact Nat.le_refl _
 |w::v::r,h=>by
  obtain ⟨h1,h2⟩:=joinSp_ge (ws:=v::r) (fun x hx=>h x (by simp[hx]))
  have e:(joinSp (w::v::r)).length=w.length+(joinSp (v::r)).length+1:=by
   rw[show joinSp (w::v::r)=w++32::joinSp (v::r) from rfl,List.length_append,List.length_cons]
   omega
  rw[e]
  refine ⟨by simp only[List.length_cons] at h1 ⊢;omega,fun x hx=>?_⟩
  rcases List.mem_cons.1 hx with rfl|hx
  ·omega
  ·have:=h2 x hx;omega
theorem parseBy_some {f:Pl→Wds→Option (Pl×Wds)} {s:List UInt8} {ws:Wds} (h:s≠[]) (hw:wordsL s=some ws):parseBy f s=(iter f ws.length Pl.zero ws).bind fun p=>if plRight p∧printL p=s then some p else none:=by
 unfold parseBy
 rw[if_neg h,hw]
 change (match iter f ws.length Pl.zero ws with|none=>none|some p=>if plRight p∧printL p=s then some p else none)=_
 cases iter f ws.length Pl.zero ws<;>rfl
end Go.Vc
