/-
  Contracts of functions of the program, each out of its condition or by a walk, and plain lemmas.
-/
import Derived.Test.YtaehhpempnelhaaGreatDoorQTx4
import Derived.Test.YtaehhpempnelhaaGreatDoorQKe
import Derived.Test.YtaehhpempnelhaaGreatDoorRows
import Derived.Lib.LaidU8
import Derived.PinnedBridge
import Derived.Test.YtaehhpempnelhaaGreatDoorQVcs1
import Derived.Test.YtaehhpempnelhaaGreatDoorQTx1
import Derived.Test.YtaehhpempnelhaaGreatDoorQBase3
import Derived.RangeFuncBox
import Derived.RangeFuncLeaves
import Derived.Shelf.Abstract
import Derived.WalkKit
import Derived.OwnWalkIn
import Derived.TacticsInMore
import Derived.LoopNIn
import Derived.LoopIn
import Derived.Test.YtaehhpempnelhaaGreatDoorChecked
import Derived.Test.YtaehhpempnelhaaGreatDoorQTx2
set_option maxRecDepth 100000
namespace Go.Vc
open Go Go.Proofs Go.Plain Go.Lib
theorem aos:U8Extra Tryz.prog Tryz.lays260_ren:=⟨by kernel_rfl,by kernel_rfl,by kernel_rfl,by kernel_rfl,by kernel_rfl,by kernel_rfl,by kernel_rfl⟩
theorem alE{W:World}(h:Lib.Utf8Tabs 4 5 W):∀x∈tabs,∀g,qN Tryz.prog x.1=some g->kZ W g 0 x.2:=by
 intro x hx g hg;simp only[tabs,iH,List.mem_nil_iff,or_false] at hx;rcases hx with rfl|rfl
 .obtain rfl:4=g:=sS (YX.symm.trans hg);intro j u hu;rw[kM] at hu;obtain ⟨c,hc,rfl⟩:=uO.1 hu;obtain ⟨hj,rfl⟩:=dF.1 hc;simp only[C9] at hj;simp only[List.getElem_range];rw[iI,h.1 j hj,aap ⟨j,hj⟩]
 .obtain rfl:5=g:=sS (X7.symm.trans hg);intro j u hu;rw[kM] at hu;obtain ⟨c,hc,rfl⟩:=uO.1 hu;have hj:j<32:=(dF.1 hc).1;have ha:=MW ⟨j/2,by omega⟩;have hh:=h.2 (j/2) (by omega);rw[iI];rcases Nat.mod_two_eq_zero_or_one j with h0|h0
  .have e:2*(j/2)=j:=by omega
   simp only[e] at ha hh;rw[hh.1];have:=ha.1.symm.trans hc;rw[sS this]
  .have e:2*(j/2)+1=j:=by omega
   simp only[e] at ha hh;rw[hh.2];have:=ha.2.symm.trans hc;rw[sS this]
theorem ak1:(YtaehhpempnelhaaGreatDoor.Rows.laid_unicode_utf8_acceptRanges:DataW Unit)=acceptData:=by kernel_rfl
theorem anu:(YtaehhpempnelhaaGreatDoor.Rows.laid_internal_strconv_uint64pow10:DataW Unit)=tabData .u64 Lib.pow10Tab:=by kernel_rfl
theorem alF:(YtaehhpempnelhaaGreatDoor.Rows.laid_crossbar_rtcp_kinds:DataW Unit)=tabData .i64 [1,1,2,3,4]:=by kernel_rfl
abbrev Cj(a b c:Int):DataW Unit:= .agg [.lit (.int .i64 a),.lit (.int .i64 b),.lit (.int .i64 c)]
abbrev Jo:DataW Unit:= .agg [Cj 1 205 1,Cj 2 205 15,Cj 3 206 1,Cj 4 206 4,Cj 5 206 15]
theorem alQ:(YtaehhpempnelhaaGreatDoor.Rows.laid_crossbar_feed_codes:DataW Unit)=Jo:=by kernel_rfl
theorem apX:(Tryz.prog.globals[2]?).map (·.type)=some 359:=by kernel_rfl
theorem anQ:(Tryz.prog.globals[0]?).map (·.type)=some 247:=by kernel_rfl
theorem an7:(Tryz.prog.globals[1]?).map (·.type)=some 281:=by kernel_rfl
theorem anR:Tryz.prog.globalNamed "crossbar/rtcp.kinds" =some 0:=by kernel_rfl
theorem an8:Tryz.prog.globalNamed "crossbar/feed.codes" =some 1:=by kernel_rfl
theorem M5{W:World}{n:String}{g:Nat}{t:TypeId}{d:DataW Unit}(hn:Tryz.prog.globalNamed n=some g)(ht:(Tryz.prog.globals[g]?).map (·.type)=some t)(h:VarReads Tryz.prog W n d):
  ∃(cs:Array Value) (t':TypeId) (fz:Nat×Nat) (fuel:Nat) (p:List MemPlace),W.heap[g]?=some (.cells cs t' fz)/\DataW.trod (fun _=>()) Tryz.prog W 0 (fun _=>true) false fuel t cs.toList=some (d,p):=by
 obtain ⟨g',t1,cs,fuel,p,h1,h2,h3,h4⟩:=h;obtain rfl:g=g':=sS (hn.symm.trans h1);obtain rfl:t=t1:=sS (ht.symm.trans h2);unfold World.var? at h3;rw[h1] at h3;simp only[Option.bind_some] at h3;split at h3
 .rename_i cs' t' fz hh;obtain rfl:=sS h3;exact ⟨_,t',fz,fuel,p,hh,h4⟩
 .cases h3
theorem cells3:Tryz.prog.cellsOf 3=1:=by kernel_rfl
theorem aaG:Tryz.prog.cellsOf 280=3:=by kernel_rfl
theorem aod:Tryz.prog.cellsOf 281=15:=by kernel_rfl
theorem FN{W:World}{fuel:Nat}{cs:List Value}{a b c:Int}{p:List MemPlace}(h:DataW.trod (fun _=>()) Tryz.prog W 0 (fun _=>true) false fuel 280 cs=some (Cj a b c,p)):
  cs=[.int .i64 a,.int .i64 b,.int .i64 c]:=by
 obtain ⟨xs,n,_,hx,hl,hxl,hf⟩:=DataW.trod_struct Tryz.underlying280 h;have f0:DataW.trod (fun _=>()) Tryz.prog W 0 (fun _=>true) false n 3 ((cs.drop 0).take (Tryz.prog.cellsOf 3))=xs[0]?:=hf 0 _ rfl;have f1:DataW.trod (fun _=>()) Tryz.prog W 0 (fun _=>true) false n 3 ((cs.drop 1).take (Tryz.prog.cellsOf 3))=xs[1]?:=hf 1 _ rfl;have f2:DataW.trod (fun _=>()) Tryz.prog W 0 (fun _=>true) false n 3 ((cs.drop 2).take (Tryz.prog.cellsOf 3))=xs[2]?:=hf 2 _ rfl;rw[cells3] at f0 f1 f2;rw[aaG] at hl;simp only[fq,DataW.agg.injEq] at hx;match xs,hx.1 with
 | [x0,x1,x2],hm=>
  simp only[eZ,jI,iJ,and_true] at hm;obtain ⟨m0,m1,m2⟩:=hm;obtain ⟨_,e0,q0,_⟩:=DataW.trod_int Tryz.underlying3 (show _=some x0 from f0);obtain ⟨_,e1,q1,_⟩:=DataW.trod_int Tryz.underlying3 (show _=some x1 from f1);obtain ⟨_,e2,q2,_⟩:=DataW.trod_int Tryz.underlying3 (show _=some x2 from f2);rw[q0] at m0;rw[q1] at m1;rw[q2] at m2;simp only[DataW.lit.injEq,Lit.int.injEq,true_and] at m0 m1 m2;subst m0 m1 m2;match cs,hl with
  | [c0,c1,c2],_=>
   simp at e0 e1 e2;rw[e0,e1,e2]
theorem akV{W:World}{fuel:Nat}{cs:List Value}{p:List MemPlace}(h:DataW.trod (fun _=>()) Tryz.prog W 0 (fun _=>true) false fuel 281 cs=some (Jo,p)):cs=vk:=by
 obtain ⟨xs,n,_,hx,hl,hxl,hf⟩:=DataW.trod_array Tryz.underlying281 h;have f0:=hf 0 (by decide);have f1:=hf 1 (by decide);have f2:=hf 2 (by decide);have f3:=hf 3 (by decide);have f4:=hf 4 (by decide);simp only[aaG] at f0 f1 f2 f3 f4;rw[aod] at hl;simp only[fq,DataW.agg.injEq] at hx;match xs,hx.1 with
 | [x0,x1,x2,x3,x4],hm=>
  simp only[eZ,jI,iJ,and_true] at hm;obtain ⟨m0,m1,m2,m3,m4⟩:=hm;obtain ⟨d0,p0⟩:=x0;obtain ⟨d1,p1⟩:=x1;obtain ⟨d2,p2⟩:=x2;obtain ⟨d3,p3⟩:=x3;obtain ⟨d4,p4⟩:=x4;simp only at m0 m1 m2 m3 m4;subst m0 m1 m2 m3 m4;have e0:=FN f0;have e1:=FN f1;have e2:=FN f2;have e3:=FN f3;have e4:=FN f4;have key:cs=(cs.drop (0*3)).take 3++((cs.drop (1*3)).take 3++((cs.drop (2*3)).take 3++((cs.drop (3*3)).take 3++(cs.drop (4*3)).take 3))):=by
   have s:∀k,cs.drop k=(cs.drop k).take 3++cs.drop (k+3):=fun k=>by
    conv=>lhs;rw[<-zu 3 (cs.drop k)]
    rw[rC]
   have z:cs.drop 15=[]:=AO (by omega);conv=>lhs;rw[show cs=cs.drop 0 from rfl,s 0,s 3,s 6,s 9,s 12,z]
   simp
  rw[key,e0,e1,e2,e3,e4];rfl
theorem ap7{W:World}(h1:VarReads Tryz.prog W "internal/strconv.uint64pow10" (tabData .u64 Lib.pow10Tab))(h2:VarReads Tryz.prog W "crossbar/rtcp.kinds" (tabData .i64 [1,1,2,3,4]))(h3:VarReads Tryz.prog W "crossbar/feed.codes" Jo):KWp Tryz.prog W:=by
 intro x hx g hg;simp only[Jb,iH,List.mem_nil_iff,or_false] at hx;rcases hx with rfl|rfl|rfl
 .obtain rfl:2=g:=sS (aaS.symm.trans hg);obtain ⟨cs,t',fz,fuel,p,hh,h4⟩:=M5 ZT apX h1;have hc:=cells_of_tab (P:=Tryz.prog) Tryz.underlying359 Tryz.underlying68 (by kernel_rfl) (by kernel_rfl) h4;refine ⟨t',fz,?_⟩;rw[hh,pow_eq,<-hc]
 .obtain rfl:0=g:=sS (YW.symm.trans hg);obtain ⟨cs,t',fz,fuel,p,hh,h4⟩:=M5 anR anQ h2;have hc:=cells_of_tab (P:=Tryz.prog) Tryz.underlying247 Tryz.underlying3 (by kernel_rfl) (by kernel_rfl) h4;refine ⟨t',fz,?_⟩;rw[hh,<-hc]
 .obtain rfl:1=g:=sS (YZ.symm.trans hg);obtain ⟨cs,t',fz,fuel,p,hh,h4⟩:=M5 an8 an7 h3;have hc:=akV h4;refine ⟨t',fz,?_⟩;rw[hh,show ([1,205,1,2,205,15,3,206,1,4,206,4,5,206,15].map fun n=>Value.int .i64 n)=vk from rfl,<-hc]
theorem kw_row{W:World}(h:laidMet Tryz.prog YtaehhpempnelhaaGreatDoor.Rows.topOrderRow.laid W):KW Tryz.prog W:=by
 have h1:=Lib.laidMet.reads h (n:= "unicode/utf8.first") (d:=firstData) (by rw[<-Pinned.utf8First_eq];exact .tail _ (.tail _ (.tail _ (.tail _ (.tail _ (.tail _ (.head _)))))));have h2:=Lib.laidMet.reads h (n:= "unicode/utf8.acceptRanges") (d:=acceptData) (by rw[<-ak1];exact .tail _ (.tail _ (.tail _ (.head _))));have h3:=Lib.laidMet.reads h (n:= "internal/strconv.uint64pow10") (d:=tabData .u64 Lib.pow10Tab) (by rw[<-anu];exact .tail _ (.tail _ (.head _)));have h4:=Lib.laidMet.reads h (n:= "crossbar/feed.codes") (d:=Jo) (by rw[<-alQ];exact .tail _ (.tail _ (.tail _ (.tail _ (.head _)))));have h5:=Lib.laidMet.reads h (n:= "crossbar/rtcp.kinds") (d:=tabData .i64 [1,1,2,3,4]) (by rw[<-alF];exact .tail _ (.tail _ (.tail _ (.tail _ (.tail _ (.head _))))));exact ⟨alE (utf8Tabs_of_reads (ρ:=Tryz.lays260_ren) Tryz.lays260 aos h1 h2),ap7 h3 h5 h4⟩
end Go.Vc
namespace Go.Vc
open Go Go.Proofs Go.Plain
def Ci(size at_ n:Int):Int:=if at_>size\/n>size-at_ then 2 else 0
theorem aja(size at_ n:Int)(h1:0<=size)(h2:size<=9223372036854775807)(h3:0<=at_):
  PC Tryz.prog Wx [(I64,.int size),(I64,.int at_),(I64,.int n)] [(I64,.int (Ci size at_ n))]:=by
 apply ahO rfl;simp only[UG,aH,aB,aA,ay,aC,forall_const];refine ⟨fun _=>by omega,fun _=>?_,fun _=>?_⟩
 .rw[Ci,if_pos (by omega)]
 .rw[Ci,if_neg (by omega)]
theorem byte_of(v:Nat):C.int (IntKind.u8.wrap (v:Int))= .int (UInt8.ofNat v).toNat:=by
 simp only[lY,mh];congr 1
theorem aoP(n j:Nat)(hj:j<n)(x:UInt8)(l:List UInt8):(List.replicate (n-j) 0++l).set (n-1-j) x=List.replicate (n-(j+1)) 0++x::l:=by
 have h:n-j=(n-1-j)+1:=by omega
 have h':n-(j+1)=n-1-j:=by omega
 rw[h,h',List.replicate_succ',dI];generalize n-1-j=m;rw[List.set_append_right _ _ (by simp)];simp
theorem R7(v n:Nat)(h1:v<18446744073709551616)(h2:n<=8):
  PC Tryz.prog SY [(U64,.int v),(I64,.int n)] [(aQ,B (bT n v))]:=by
 apply afO rfl;simp only[RX,aH,aB,aA,ay,aC,forall_const];refine ⟨by omega,by omega,by omega,by omega,?_⟩;refine VC.go_loop (fun j:Nat=> [.int ((v/256^j:Nat):Int),.int ((n:Int)-1-j),B (List.replicate (n-j) 0++bT j v)]) (fun j=>j<=n) (fun j=>n-j) 0 ?_ (bK _) fun j hj=>?_
 .simp only[aB,aA,ay,aC,forall_const];simp[bT,Xp]
 .simp only[aH,aB,aA,ay,aC,forall_const];refine ⟨fun hc=>⟨by omega,by omega,by omega,j+1,?_,by omega,by omega⟩,fun hc=>?_⟩
  .have e1:((n:Int)-1-j).toNat=n-1-j:=by omega
   have e2:arith .shr .u64 ((v/256^j:Nat):Int) 8=((v/256^(j+1):Nat):Int):=by
    rw[pR,Nat.pow_succ,<-Nat.div_div_eq_div_mul];simp[IntKind.bits]
   rw[e1,e2,byte_of,Dv,aoP n j (by omega),<-YV];congr 2
   simp;omega
  .have:j=n:=by omega
   subst this;simp
def kH(len at_ n:Int):Int:=if n<1\/8<n\/at_<0 then 1 else Ci len at_ n
def cut(b:List UInt8)(at_ n:Int):List UInt8:=(b.drop at_.toNat).take n.toNat
def jT(b:List UInt8)(at_ n:Int):Nat:=if kH b.length at_ n=0 then be (cut b at_ n) else 0
theorem vg{len at_ n:Int}:kH len at_ n=0↔1<=n/\n<=8/\0<=at_/\at_<=len/\n<=len-at_:=by
 unfold kH Ci;split
 .simp;omega
 .split<;>simp<;>omega
theorem YF{b:List UInt8}{at_ n:Int}(h:at_<=b.length/\n<=b.length-at_)(h0:0<=at_):(cut b at_ n).length=n.toNat:=by
 simp only[cut,gD,jV];omega
theorem aoz(b:List UInt8)(at_ n:Int)(h:0<=at_)(hn:0<=n):((ofBytes b).take (at_+n).toNat).drop at_.toNat=ofBytes (cut b at_ n):=by
 have e:(at_+n).toNat=at_.toNat+n.toNat:=by omega
 rw[wT,y9,e,take_drop];rfl
theorem rP(b:List UInt8)(at_ n:Int)(h1:b.length<=9223372036854775807):
  PC Tryz.prog XG [(aQ,B b),(I64,.int at_),(I64,.int n)] [(U64,.int (jT b at_ n)),(I64,.int (kH b.length at_ n))]:=by
 apply aiR rfl;simp only[VJ,aH,aB,aA,ay,aC,forall_const];refine ⟨fun hc=>?_,fun hc=>⟨_,aja _ _ _ ?_ ?_ ?_,fun he=>?_,fun he=>?_⟩⟩
 .have e:kH b.length at_ n=1:=by rw[kH,if_pos (by omega)]
  simp[jT,e]
 .omega
 .simp;omega
 .omega
 .have e:kH b.length at_ n=Ci b.length at_ n:=by rw[kH,if_neg (by omega)]
  simp only[C.toInt_int,bE] at he |-;rw[jT,e,if_neg he];rfl
 .have e:kH b.length at_ n=0:=by rw[kH,if_neg (by omega)];simpa using he
  have hz:=vg.1 e;have hl:=YF ⟨hz.2.2.2.1,hz.2.2.2.2⟩ hz.2.2.1;rw[bE];refine ⟨by omega,by omega,by omega,by omega,?_⟩;refine VC.go_loop (fun i:Nat=> [.int ((be ((cut b at_ n).take i):Nat):Int),.int i]) (fun i=>i<=n.toNat) (fun i=>n.toNat-i) 0 ?_ (bK _) fun i hi=>?_
  .rfl
  .simp only[aH,aB,aA,ay,aC,forall_const];rw[aoz b at_ n hz.2.2.1 (by omega)];simp only[bE,hl];refine ⟨fun hc=>⟨by omega,by omega,by omega,i+1,?_,by omega,by omega⟩,fun hc=>?_⟩
   .have hx:=ajk (cut b at_ n) i;have hv:=YM (cut b at_ n) i;have hp:256^i<=256^7:=CX (by decide) (by omega);have hp':(256:Nat)^7=72057594037927936:=by decide
    have e1:arith .shl .u64 ((be ((cut b at_ n).take i):Nat):Int) 8=((be ((cut b at_ n).take i)*2^8:Nat):Int):=by
     rw[pU,jD];simp[IntKind.bits];omega
    simp only[bO,lH,C.toInt_int,e1,jD];have e2:(((cut b at_ n).getD i 0).toNat:Int)%18446744073709551616=((((cut b at_ n).getD i 0).toNat:Nat):Int):=by omega
    rw[e2,wY rfl (by show _<2^64;omega) (by show _<2^64;omega),vG _ _ _ (by omega),aj6 _ _ (by omega)];simp
   .rw[jB (by omega)];simp only[jT,e,if_true]
theorem aoU(v:Nat)(h:v<18446744073709551616){k:Nat}(hk:k=8):v<256^k:=by subst hk;simpa using h
def ow(v:Nat)(n:Int):Int:=if n<1\/8<n then 1 else if v<256^n.toNat then 0 else 6
def dP(v:Nat)(n:Int):List UInt8:=if ow v n=0 then bT n.toNat v else []
theorem zA{v:Nat}{n:Int}:ow v n=0↔1<=n/\n<=8/\v<256^n.toNat:=by
 unfold ow;split
 .simp;omega
 .split
  .simp[*];omega
  .simp[*]
theorem tK(v:Nat)(n:Int)(h1:v<18446744073709551616):
  PC Tryz.prog XF [(U64,.int v),(I64,.int n)] [(aQ,B (dP v n)),(I64,.int (ow v n))]:=by
 apply aiQ rfl;simp only[VI,aH,aB,aA,ay,aC,forall_const];refine ⟨fun hc=>?_,fun hc=>⟨fun h=>by omega,fun h=>by rw[jD];omega,fun hc'=>?_,fun hc'=>?_⟩⟩
 .have e:ow v n=1:=by rw[ow,if_pos (by omega)]
  simp[dP,e]
 .have e:ow v n=6:=by
   rw[ow,if_neg (by omega),if_neg];have h3:=hc'.2;intro h;apply h3;rw[pR,jD];obtain ⟨m,rfl⟩:∃m:Nat,n=m:=⟨n.toNat,by omega⟩;have e1:((8:Int)*m%18446744073709551616).toNat=8*m:=by omega
   rw[e1,Nat.min_eq_left (by simp[IntKind.bits];omega)];simp only[bO] at h;have:(256:Nat)^m=2^(8*m):=by rw[Nat.pow_mul]
   rw[this] at h;exact Int.ediv_eq_zero_of_lt (by omega) (by exact_mod_cast h)
  simp[dP,e]
 .have e:ow v n=0:=by
   rw[zA];refine ⟨by omega,by omega,?_⟩;rcases hc' with h|h
   .exact aoU v h1 (by omega)
   .rw[pR,jD] at h;obtain ⟨m,rfl⟩:∃m:Nat,n=m:=⟨n.toNat,by omega⟩;have e1:((8:Int)*m%18446744073709551616).toNat=8*m:=by omega
    rw[e1,Nat.min_eq_left (by simp[IntKind.bits];omega)] at h;simp only[bO];have:(256:Nat)^m=2^(8*m):=by rw[Nat.pow_mul]
    rw[this];apply Nat.lt_of_not_le;intro hle;have h5:v/2^(8*m)=0:=by exact_mod_cast h
    have h6:0<v/2^(8*m):=Nat.div_pos hle (Nat.pow_pos (by decide));omega
  obtain ⟨m,rfl⟩:∃m:Nat,n=m:=⟨n.toNat,by omega⟩;refine ⟨_,R7 v m h1 (by omega),?_⟩;simp[dP,e]
theorem eight(n:Int)(h:1<=n/\n<=8):n=1\/n=2\/n=3\/n=4\/n=5\/n=6\/n=7\/n=8:=by omega
def Cy(b:List UInt8)(at_ n:Int):Int:=if kH b.length at_ n=0 then Kl n.toNat (jT b at_ n) else 0
theorem anX{b:List UInt8}{at_ n:Int}(e:kH b.length at_ n=0):jT b at_ n<256^n.toNat:=by
 have h:=vg.1 e;rw[jT,if_pos e];have:=adT (cut b at_ n);rwa[YF ⟨h.2.2.2.1,h.2.2.2.2⟩ h.2.2.1] at this
theorem amc(v:Nat)(n:Int)(hn:1<=n/\n<=8)(hv:v<256^n.toNat):
  arith .shr .i64 (IntKind.i64.wrap (arith .shl .u64 (v:Int) (IntKind.u64.wrap (64-8*n)))) (IntKind.u64.wrap (64-8*n))=Kl n.toNat v:=by
 rw[pR,pU,Em];simp only[jD];unfold Kl;rcases eight n hn with rfl|rfl|rfl|rfl|rfl|rfl|rfl|rfl<;>simp[IntKind.bits] at hv |- <;>split<;>omega
def qB(s:Int)(n:Int):Int:=if n<1\/8<n then 1 else if-(2:Int)^(8*n.toNat-1)<=s/\s<2^(8*n.toNat-1) then 0 else 6
def kQ(s:Int)(n:Int):List UInt8:=if qB s n=0 then bT n.toNat (s%18446744073709551616).toNat else []
theorem Io{s n:Int}:qB s n=0↔1<=n/\n<=8/\-(2:Int)^(8*n.toNat-1)<=s/\s<2^(8*n.toNat-1):=by
 unfold qB;split
 .simp;omega
 .split
  .simp[*];omega
  .rename_i h1 h2;simp only[Int.reduceEq,false_iff];intro h;exact h2 ⟨h.2.2.1,h.2.2.2⟩
theorem Yb(s:Int)(n:Int)(hn:1<=n/\n<=8)(hs: -9223372036854775808<=s/\s<=9223372036854775807):
  arith .shr .i64 (arith .shl .i64 s (IntKind.u64.wrap (64-8*n))) (IntKind.u64.wrap (64-8*n))=s↔-(2:Int)^(8*n.toNat-1)<=s/\s<2^(8*n.toNat-1):=by
 rw[pR,pU,Em];simp only[jD];rcases eight n hn with rfl|rfl|rfl|rfl|rfl|rfl|rfl|rfl<;>simp[IntKind.bits]<;>omega
def put(b:List UInt8)(k:Nat)(x:List UInt8):List UInt8:=b.take k++(x++b.drop (k+x.length))
abbrev Bs(l:List (List UInt8)):C:= .ls (l.map B)
theorem ab7(l:List (List UInt8))(i:Nat)(h:i<l.length):(l.map B).getD i default=B (l.getD i []):=by
 simp[List.getD,h]
theorem Zu(l:List (List UInt8))(i:Nat)(h:i<l.length):(l.take (i+1)).flatten=(l.take i).flatten++l.getD i []:=by
 rw[jm h,Da];simp[List.getD,h]
theorem join_le(l:List (List UInt8))(i:Nat):(l.take i).flatten.length<=l.flatten.length:=by
 have h:=congrArg (fun x:List (List UInt8)=>x.flatten.length) (zu i l);simp only[Da,bg] at h;omega
theorem uX(l:List (List UInt8))(h1:l.length<=140737488355328)(h2:l.flatten.length<=140737488355328):
  PC Tryz.prog Wy [(.sl aQ,Bs l)] [(aQ,B l.flatten)]:=by
 apply ahP rfl;simp only[UH,aH,aB,aA,ay,aC,forall_const];refine VC.go_loop (fun i:Nat=> [.int (((l.take i).flatten.length:Nat):Int),.int i]) (fun i=>i<=l.length) (fun i=>l.length-i) 0 rfl (bK _) fun i hi=>?_;simp only[aH,aB,aA,ay,aC,forall_const,aT];have hle:=join_le l i;refine ⟨fun hc=>?_,fun hc=>⟨by omega,by omega,?_⟩⟩
 .have hle':=join_le l (i+1);have e:=Zu l i (by omega);have e':=congrArg List.length e;rw[bg] at e';simp only[bO,ab7 l i (by omega),gM,bE];refine ⟨by omega,by omega,by omega,by omega,i+1,?_,by omega,by omega⟩;rw[e'];simp
 .refine VC.go_loop (fun i:Nat=> [B (l.take i).flatten,.int i]) (fun i=>i<=l.length) (fun i=>l.length-i) 0 rfl (bK _) fun j hj=>?_;simp only[aH,aB,aA,ay,aC,forall_const,aT];refine ⟨fun hc=>?_,fun hc=>?_⟩
  .have hle':=join_le l (j+1);have e:=Zu l j (by omega);have e':=congrArg List.length e;rw[bg] at e';simp only[bO,ab7 l j (by omega),gM,bE];refine ⟨by omega,by omega,by omega,by omega,j+1,?_,by omega,by omega⟩;rw[e,wS];simp
  .rw[jB (by omega)]
theorem SH(b:List UInt8)(at_ n:Int)(h1:b.length<=9223372036854775807):
  PC Tryz.prog Ub [(aQ,B b),(I64,.int at_),(I64,.int n)] [(I64,.int (Cy b at_ n)),(I64,.int (kH b.length at_ n))]:=by
 apply af9 rfl;simp only[Sw,aH,aB,aA,ay,aC,forall_const];refine ⟨_,_,rP b at_ n h1,fun he=>?_,fun he=>?_⟩
 .simp only[C.toInt_int] at he;rw[Cy,if_neg he]
 .simp only[C.toInt_int] at he |-;have hz:=vg.1 he;refine ⟨by omega,by omega,by rw[jD];omega,by rw[jD];omega,?_⟩;rw[amc _ _ ⟨hz.1,hz.2.1⟩ (anX he),Cy,if_pos he,he]
theorem Rt(s n:Int)(hs: -9223372036854775808<=s/\s<=9223372036854775807):
  PC Tryz.prog RI [(I64,.int s),(I64,.int n)] [(aQ,B (kQ s n)),(I64,.int (qB s n))]:=by
 apply afq rfl;simp only[Ro,aH,aB,aA,ay,aC,forall_const];refine ⟨fun hc=>?_,fun hc=>⟨by omega,by omega,by rw[jD];omega,by rw[jD];omega,fun hc'=>?_,fun hc'=>?_⟩⟩
 .have e:qB s n=1:=by rw[qB,if_pos (by omega)]
  simp[kQ,e]
 .have e:qB s n=6:=by
   rw[qB,if_neg (by omega),if_neg];rwa[<-Yb s n (by omega) hs]
  simp[kQ,e]
 .have e:qB s n=0:=by
   rw[Io];exact ⟨by omega,by omega,(Yb s n (by omega) hs).1 hc'⟩
  obtain ⟨m,rfl⟩:∃m:Nat,n=m:=⟨n.toNat,by omega⟩;have e1:IntKind.u64.wrap s=(((s%18446744073709551616).toNat:Nat):Int):=by rw[jD];omega
  rw[e1];refine ⟨_,R7 _ m (by omega) (by omega),?_⟩;simp only[kQ,e,if_true,bO]
theorem abP(b x c:List UInt8)(n:Int)(h:x.length=n.toNat):cut (b++(x++c)) b.length n=x:=by
 simp only[cut,bO];rw[wu,sV (aI _)];simp[<-h]
theorem vB{v:Nat}{n:Int}(h:ow v n=0):dP v n=bT n.toNat v/\(dP v n).length=n.toNat:=by
 rw[dP,if_pos h];exact ⟨rfl,oG _ _⟩
theorem Je{v:Int}{n:Int}(h:qB v n=0):kQ v n=bT n.toNat (v%18446744073709551616).toNat/\(kQ v n).length=n.toNat:=by
 rw[kQ,if_pos h];exact ⟨rfl,oG _ _⟩
theorem abk{b c:List UInt8}{v:Nat}{n:Int}(h:ow v n=0):kH (b++(dP v n++c)).length b.length n=0/\jT (b++(dP v n++c)) b.length n=v:=by
 have hz:=zA.1 h;have hp:=vB h;have e:kH (b++(dP v n++c)).length b.length n=0:=by
  rw[vg];simp only[bg,hp.2];omega
 refine ⟨e,?_⟩;rw[jT,if_pos e,abP _ _ _ _ hp.2,hp.1,BM,wo hz.2.2]
theorem aaX{b c:List UInt8}{v:Int}{n:Int}(h:qB v n=0):kH (b++(kQ v n++c)).length b.length n=0/\Cy (b++(kQ v n++c)) b.length n=v:=by
 have hz:=Io.1 h;have hp:=Je h;have e:kH (b++(kQ v n++c)).length b.length n=0:=by
  rw[vg];simp only[bg,hp.2];omega
 refine ⟨e,?_⟩;rw[Cy,if_pos e,jT,if_pos e,abP _ _ _ _ hp.2,hp.1,BM];unfold Kl;rcases eight n ⟨hz.1,hz.2.1⟩ with rfl|rfl|rfl|rfl|rfl|rfl|rfl|rfl<;>simp at hz |- <;>split<;>omega
end Go.Vc
namespace Go.Vc
open Go Go.Proofs Go.RowKit Go.Shelf
def xP(w:World)(v:Value)(l:List Int):Prop:=
 ∃a cap,v= .slice a l.length cap/\l.length<=cap/\cap<=maxLen/\(l≠[]->∃b off,a=some ⟨b,off,none⟩/\b<w.heap.size/\∀i x,l[i]?=some x->w.cell? ⟨b,off+i,none⟩=some (.int .i64 x))
theorem xP.of{w:World}{N:Nat->Prop}{v:Value}{l:List Int}(h:bq w N (.sl (.int .i64)) v (Ints l)):xP w v l:=by
 obtain ⟨vs,⟨a,cap,rfl,h2,h3,h4⟩,rfl⟩:=h;refine ⟨a,cap,by simp[Sh.mk,Sh.isAgg],by simpa using h2,h3,fun hne=>?_⟩;obtain ⟨b,off,rfl,_,hlt,hr⟩:=h4 (by simpa using hne);refine ⟨b,off,rfl,hlt,fun i e he=>?_⟩;obtain ⟨us,h5,h6,h7⟩:=hr i (.int e) (by simp[he]);simp only[Rd] at h7;subst h7;have:=h6 0 _ rfl;simpa [Sh.size] using this
def vY(l:List Int)(most:Nat)(h:Int->Bool):Nat:=((l.take most).takeWhile h).length
theorem abX(l:List Int)(most:Nat)(h:Int->Bool)(k:Nat)(h1:∀j,j<k->j<most/\∃x,l[j]?=some x/\h x=true)(h2:¬(k<l.length/\k<most/\∀x,l[k]?=some x->h x=true)):vY l most h=k:=by
 unfold vY;induction k generalizing l most with
 |zero=>
  cases l with
  |nil=>simp
  |cons x l=>
   cases most with
   |zero=>simp
   |succ m=>
    have:h x=false:=by
     cases hx:h x with
     |false=>rfl
     |true=>exact absurd ⟨by simp,by omega,fun y hy=>by simp at hy;rw[<-hy];exact hx⟩ h2
    simp[this]
 |succ k ih=>
  obtain ⟨q1,x,q2,q3⟩:=h1 0 (by omega);cases l with
  |nil=>simp at q2
  |cons y l=>
   simp at q2;subst q2;cases most with
   |zero=>omega
   |succ m=>
    rw[wz,List.takeWhile_cons_of_pos q3,bn];rw[ih l m (fun j hj=>by
     obtain ⟨r1,r2⟩:=h1 (j+1) (by omega);exact ⟨by omega,by simpa using r2⟩) (fun hc=>h2 ⟨by simp;omega,by omega,by simpa using hc.2.2⟩)]
theorem WU(w:World)(sv:Value)(l:List Int)(hsv:xP w sv l)(most:Nat)(hm:most<=10000)(f:FuncId)(caps:Array Value)(eg:∀args W,(callFunc f args).run Tryz.prog W= .ok (.enter f args) W)(holds:Int->Bool)
  (hcall:∀x,Calls Tryz.prog f (#[.int .i64 x]++caps) w fun e W'=>e= .returned (.bool (holds x))/\W'=w):
  Calls Tryz.prog 285 #[sv,.int .i64 (most:Int),.func (.func f) #[] caps] w fun e W'=>e= .returned (.int .i64 (vY l most holds:Nat))/\W'=w:=by
 obtain ⟨a,cap,rfl,_,_,h1⟩:=hsv;refine (callsIn_wide (n:=3)).1 ?_;refine callsIn_of_wp Tryz.func285 rfl trivial ?_ rfl;simp only[Tryz.ntmps285,List.size_toArray,bn,zy,Nat.reduceAdd,Nat.reduceSub,Array.replicate_succ,Array.replicate_zero,List.push_toArray,List.append_toArray,fJ,jc];gi_wp2
 gi_loopw [7] (fun p wr=>∃k:Nat,p= .int .i64 (k:Int)/\wr=w/\k<=most/\∀j,j<k->j<most/\∃x,l[j]?=some x/\holds x=true)
  (fun p _=>most-(intOf p).toNat)
 case atStart=>
  exact ⟨0,rfl,rfl,bK _,fun j hj=>by omega⟩
 case round=>
  obtain ⟨k,rfl,rfl,hk,hj⟩:=hrel;by_cases hkl:k<l.length/\k<most
  .obtain ⟨b,off,rfl,hblt,hc⟩:=h1 (by intro h;rw[h] at hkl;simp at hkl);obtain ⟨x,hx⟩:∃x,l[k]?=some x:=⟨_,iK hkl.1⟩;have d1:=hc k x hx;have i1:(k:Int)<l.length:=by omega
   have i2:(k:Int)<most:=by omega
   gi_wp2
   refine ⟨trivial,(callsIn_wide.2 (hcall _)).mono ?_⟩;rintro e w' ⟨rfl,rfl⟩;have hx2:l[k]'hkl.1=x:=by rw[iK hkl.1] at hx;injection hx
   cases hh:holds x with
   |true=>
    rw[hx2,hh];gi_wp2
    go_roundw
    case rel=>
     refine ⟨k+1,by simp,trivial,by omega,fun j hj2=>?_⟩;by_cases hjk:j=k
     .subst hjk;exact ⟨by omega,x,hx,hh⟩
     .exact hj j (by omega)
    case measure=>simp[intOf];omega
   |false=>
    rw[hx2,hh];gi_wp2
    go_ret
    refine ⟨?_,rfl⟩;rw[abX l most holds k hj (fun hc=>by have:=hc.2.2 x hx;rw[hh] at this;cases this)];rfl
  .have hb:vY l most holds=k:=abX l most holds k hj (fun hc=>hkl ⟨hc.1,hc.2.1⟩);by_cases h0:k<l.length
   .have i1:(k:Int)<l.length:=by omega
    have i2:¬(k:Int)<most:=by omega
    gi_wp2
    refine ⟨fun _ h=>(by cases h),?_⟩;gi_wp2
    go_ret
    refine ⟨?_,rfl⟩;rw[hb];rfl
   .have i1:¬(k:Int)<l.length:=by omega
    gi_wp2
    refine ⟨fun _ h=>(by cases h),?_⟩;gi_wp2
    go_ret
    refine ⟨?_,rfl⟩;rw[hb];rfl
theorem aoc(w:World)(b:Nat)(sv:Value)(l:List Int)(hsv:xP w sv l)(hb:Boxed w b 27 sv)(y:Int)(hy:l[0]?=some y)(x:Int):
  Calls Tryz.prog 286 (#[.int .i64 x]++ #[.pointer (some ⟨b,0,none⟩)]) w fun e W'=>e= .returned (.bool (x==y))/\W'=w:=by
 obtain ⟨a,cap,rfl,_,_,h1⟩:=hsv;obtain ⟨b2,off,rfl,hblt,hc⟩:=h1 (by intro h;rw[h] at hy;simp at hy);have d1:=hc 0 y hy;simp only[Nat.add_zero] at d1;have hcell:=hb.cell;have hlen:0<l.length:=by cases l;simp at hy;simp
 have i1:(0:Int)<l.length:=by omega
 refine (callsIn_wide (n:=3)).1 ?_;refine callsIn_of_wp Tryz.func286 rfl trivial ?_ rfl;simp only[Tryz.ntmps286,List.size_toArray,bn,zy,Nat.reduceAdd,Nat.reduceSub,Array.replicate_succ,Array.replicate_zero,List.push_toArray,List.append_toArray,fJ,jc];gi_wp2
 go_ret
 exact ⟨rfl,rfl⟩
theorem aob(w:World)(x:Int):Calls Tryz.prog 287 (#[.int .i64 x]++ #[]) w fun e W'=>e= .returned (.bool (x !=2))/\W'=w:=by
 refine (callsIn_wide (n:=3)).1 ?_;refine callsIn_of_wp Tryz.func287 rfl trivial ?_ rfl;simp only[Tryz.ntmps287,List.size_toArray,bn,zy,Nat.reduceAdd,Nat.reduceSub,Array.replicate_succ,Array.replicate_zero,List.push_toArray,List.append_toArray,fJ,jc];gi_wp2
 go_ret
 exact ⟨rfl,rfl⟩
end Go.Vc
