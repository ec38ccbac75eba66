/-
  Contracts of functions of the program, each out of its condition or by a walk, and plain lemmas.
-/
import Derived.Test.YtaehhpempnelhaaGreatDoorQTx3
import Derived.Test.YtaehhpempnelhaaGreatDoorQTx1
import Derived.Test.YtaehhpempnelhaaGreatDoorQZd
import Derived.Test.YtaehhpempnelhaaGreatDoorQBase3
import Derived.Test.YtaehhpempnelhaaGreatDoorRows
import Derived.Lib.LaidU8
import Derived.PinnedBridge
import Derived.Test.YtaehhpempnelhaaGreatDoorQVcs1
import Derived.Test.YtaehhpempnelhaaGreatDoorQTx2
set_option maxRecDepth 100000
namespace Go.Vc
open Go Go.Proofs Go.Plain
open Go.Lib (decDigits nDigits)
end Go.Vc
set_option maxRecDepth 100000
namespace Go.Vc
open Go Go.Proofs Go.Plain
open Go.Lib (decDigits nDigits)
end Go.Vc
set_option maxRecDepth 100000
namespace Go.Vc
open Go Go.Proofs Go.Plain
end Go.Vc
set_option maxRecDepth 100000
namespace Go.Vc
open Go Go.Proofs Go.Plain
open Go.Lib (decDigits nDigits)
end Go.Vc
set_option maxRecDepth 100000
namespace Go.Vc
open Go Go.Proofs Go.RowKit Go.Plain
abbrev afp:FuncId:=18
theorem aew (s:List UInt8) (hs:s.length≤1000000):PC Tryz.prog afp [(.str,.str s)] [(cu,cK ((uy sI s).getD Pl.zero)),(I64,.int (if (uy sI s).isSome then 0 else 6))]:=by
 refine PC.sQ (by decide) ⟨⟨_,Tryz.func18,by kernel_rfl,by kernel_rfl⟩,fun w N vs aN hrd=>?_⟩;obtain ⟨v,r,rfl,⟨us,hu,rfl⟩,hr⟩:=hrd;simp only[bZ] at hr;subst hr;simp only[Rd] at hu;subst hu;refine (af4 w aN s hs _ rfl).mono fun e w' ⟨cs,he,hrd,hb⟩=>⟨_,he,⟨[.agg cs,.int .i64 (if (uy sI s).isSome then 0 else 6)],⟨_,_,rfl,⟨cs.toList,hrd.mono (Nat.le_refl _) fun b h _=>⟨rfl,.inr h⟩,rfl⟩,⟨_,_,rfl,⟨_,rfl,rfl⟩,rfl⟩⟩,rfl⟩,hb⟩
end Go.Vc
set_option maxRecDepth 100000
namespace Go.Vc
open Go Go.Proofs Go.Plain
theorem ajE {c:C} (h:Ty gM c):∃e:El,c=fV e:=by
 obtain ⟨_,_,rfl,h1,_,_,e2,h2,e3⟩:=h;obtain ⟨a,rfl,_⟩:=zx h1;obtain ⟨b,rfl⟩:=Vn h2;simp only[Ty,C.ls.injEq] at e2 e3;subst e3 e2;exact ⟨⟨a,b⟩,rfl⟩
theorem Wo {c:C} (h:Ty (.sl gM) c):∃l:List El,c=dV l∧l.length≤maxLen:=by
 obtain ⟨l,rfl,hl,hx⟩:=h;obtain ⟨es,rfl,_⟩:=EZ (e:=fV) (P:=fun _=>True) fun x hx2=>by
  obtain ⟨e,he⟩:=ajE (hx x hx2);exact ⟨e,he,trivial⟩
 exact ⟨es,rfl,by simpa using hl⟩
theorem ajD {c:C} (h:Ty ni c):∃e:Mp,c=jR e:=by
 obtain ⟨_,_,rfl,h1,_,_,e2,h2,e3⟩:=h;obtain ⟨a,rfl,_⟩:=zx h1;obtain ⟨b,rfl,_⟩:=zx h2;simp only[Ty,C.ls.injEq] at e2 e3;subst e3 e2;exact ⟨⟨a,b⟩,rfl⟩
theorem aiy {c:C} (h:Ty (.sl ni) c):∃l:List Mp,c=oV l:=by
 obtain ⟨l,rfl,hl,hx⟩:=h;obtain ⟨es,rfl,_⟩:=EZ (e:=jR) (P:=fun _=>True) fun x hx2=>by
  obtain ⟨e,he⟩:=ajD (hx x hx2);exact ⟨e,he,trivial⟩
 exact ⟨es,rfl⟩
theorem ahq {c:C} (h:Ty (.sl I64) c):∃l:List Int,c=Ints l:=by
 obtain ⟨l,rfl,hl,hx⟩:=h;obtain ⟨es,rfl,_⟩:=EZ (e:=C.int) (P:=fun _=>True) fun x hx2=>by
  obtain ⟨e,he,_⟩:=zx (hx x hx2);exact ⟨e,he,trivial⟩
 exact ⟨es,rfl⟩
theorem akh {c:C} (h:Ty cu c):∃p:Pl,c=cK p∧dO p∧p.over.length≤maxLen∧p.adds.length≤maxLen:=by
 obtain ⟨_,_,rfl,⟨sm,rfl⟩,_,l1,e1,⟨m,rfl⟩,_,l2,e2,⟨st,rfl⟩,_,l3,e3,h3,_,l4,e4,⟨sq,rfl⟩,_,l5,e5,h5,_,l6,e6,⟨aY,rfl⟩,_,l7,e7,h7,_,l8,e8,⟨ss,rfl⟩,_,l9,e9,h9,_,l10,e10,h10,_,l11,e11,h11,_,l12,e12,h12,_,l13,e13,h13,_,l14,e14,⟨np,rfl⟩,e15⟩:=h;obtain ⟨ty,rfl,_⟩:=zx h3;obtain ⟨seq,rfl,q5⟩:=Fz rfl h5;obtain ⟨time,rfl,q7⟩:=Fz rfl h7;obtain ⟨aH,rfl,q9⟩:=Fz rfl h9;obtain ⟨maps,rfl⟩:=aiy h10;obtain ⟨over,rfl,o1⟩:=Wo h11;obtain ⟨drops,rfl⟩:=ahq h12;obtain ⟨adds,rfl,o2⟩:=Wo h13;simp only[Ty,C.ls.injEq] at e1 e2 e3 e4 e5 e6 e7 e8 e9 e10 e11 e12 e13 e14 e15;subst e15 e14 e13 e12 e11 e10 e9 e8 e7 e6 e5 e4 e3 e2 e1;simp only[IntKind.bits] at q5 q7 q9;exact ⟨⟨sm,m,st,ty,sq,seq,aY,time,ss,aH,maps,over,drops,adds,np⟩,rfl,⟨by simp<;>omega,by simp<;>omega,by simp<;>omega,by simp<;>omega,by simp<;>omega,by simp<;>omega⟩,o1,o2⟩
theorem akZ {p:Pl} (h:uw p):fq p:=by
 obtain ⟨h1,h2,h3,h4,_⟩:=Sm h;unfold fq;omega
end Go.Vc
set_option maxRecDepth 100000
namespace Go.Vc
open Go Go.Proofs Go.Plain Go.Lib
theorem aiw:U8Extra Tryz.prog Tryz.lays260_ren:=⟨by kernel_rfl,by kernel_rfl,by kernel_rfl,by kernel_rfl,by kernel_rfl,by kernel_rfl,by kernel_rfl⟩
theorem agc {W:World} (h:Lib.Utf8Tabs 4 5 W):∀x∈tabs,∀g,qO Tryz.prog x.1=some g→jD W g 0 x.2:=by
 intro x hx g hg;simp only[tabs,List.mem_cons,List.mem_nil_iff,or_false] at hx;rcases hx with rfl|rfl
 ·obtain rfl:4=g:=Option.some.inj (Ux.symm.trans hg);intro j u hu;rw[List.getElem?_map] at hu;obtain ⟨c,hc,rfl⟩:=Option.map_eq_some_iff.1 hu;obtain ⟨hj,rfl⟩:=List.getElem?_eq_some_iff.1 hc;simp only[List.length_range] at hj;simp only[List.getElem_range];rw[Nat.zero_add,h.1 j hj,VT ⟨j,hj⟩]
 ·obtain rfl:5=g:=Option.some.inj (Tv.symm.trans hg);intro j u hu;rw[List.getElem?_map] at hu;obtain ⟨c,hc,rfl⟩:=Option.map_eq_some_iff.1 hu;have hj:j<32:=(List.getElem?_eq_some_iff.1 hc).1;have ha:=Js ⟨j/2,by omega⟩;have hh:=h.2 (j/2) (by omega);rw[Nat.zero_add];rcases Nat.mod_two_eq_zero_or_one j with h0|h0
  ·have e:2*(j/2)=j:=by omega
   simp only[e] at ha hh;rw[hh.1];have:=ha.1.symm.trans hc;rw[Option.some.inj this]
  ·have e:2*(j/2)+1=j:=by omega
   simp only[e] at ha hh;rw[hh.2];have:=ha.2.symm.trans hc;rw[Option.some.inj this]
theorem afF:(YtaehhpempnelhaaGreatDoor.Rows.laid_unicode_utf8_acceptRanges:DataW Unit)=acceptData:=by kernel_rfl
theorem ahG:(YtaehhpempnelhaaGreatDoor.Rows.laid_internal_strconv_uint64pow10:DataW Unit)=tabData .u64 Lib.pow10Tab:=by kernel_rfl
theorem ajU:(Tryz.prog.globals[2]?).map (·.type)=some 359:=by kernel_rfl
theorem aj4 {W:World} (h:VarReads Tryz.prog W "internal/strconv.uint64pow10" (tabData .u64 Lib.pow10Tab)):KWp Tryz.prog W:=by
 intro g hg;obtain rfl:2=g:=Option.some.inj (Wu.symm.trans hg);obtain ⟨g,t,cs,fuel,p,h1,h2,h3,h4⟩:=h;obtain rfl:2=g:=Option.some.inj ((show Tryz.prog.globalNamed "internal/strconv.uint64pow10" =some 2 from Vq).symm.trans h1);obtain rfl:359=t:=Option.some.inj (ajU.symm.trans h2);have hc:=cells_of_tab (P:=Tryz.prog) Tryz.underlying359 Tryz.underlying68 (by kernel_rfl) (by kernel_rfl) h4;unfold World.var? at h3;rw[h1] at h3;simp only[Option.bind_some] at h3;split at h3
 ·rename_i cs' t' fz hh;obtain rfl:=Option.some.inj h3;refine ⟨t',fz,?_⟩;rw[hh,pow_eq,←hc]
 ·cases h3
theorem kw_row {W:World} (h:laidMet Tryz.prog YtaehhpempnelhaaGreatDoor.Rows.topOrderRow.laid W):KW Tryz.prog W:=by
 have h1:=Lib.laidMet.reads h (n:= "unicode/utf8.first") (d:=firstData) (by rw[←Pinned.utf8First_eq];exact .tail _ (.tail _ (.tail _ (.tail _ (.tail _ (.tail _ (.head _)))))));have h2:=Lib.laidMet.reads h (n:= "unicode/utf8.acceptRanges") (d:=acceptData) (by rw[←afF];exact .tail _ (.tail _ (.tail _ (.head _))));have h3:=Lib.laidMet.reads h (n:= "internal/strconv.uint64pow10") (d:=tabData .u64 Lib.pow10Tab) (by rw[←ahG];exact .tail _ (.tail _ (.head _)));exact ⟨agc (utf8Tabs_of_reads (ρ:=Tryz.lays260_ren) Tryz.lays260 aiw h1 h2),aj4 h3⟩
end Go.Vc
set_option maxRecDepth 100000
namespace Go.Vc
open Go Go.Proofs Go.Plain
def uM (size at_ n:Int):Int:=if at_>size∨n>size-at_ then 2 else 0
theorem ad7 (size at_ n:Int) (h1:0≤size) (h2:size≤9223372036854775807) (h3:0≤at_):
  PC Tryz.prog RD [(I64,.int size),(I64,.int at_),(I64,.int n)] [(I64,.int (uM size at_ n))]:=by
 apply ac7 rfl;simp only[Qo,aF,aC,aB,au,aD,forall_const];refine ⟨fun _=>by omega,fun _=>?_,fun _=>?_⟩
 ·rw[uM,if_pos (by omega)]
 ·rw[uM,if_neg (by omega)]
theorem byte_of (v:Nat):C.int (IntKind.u8.wrap (v:Int))= .int (UInt8.ofNat v).toNat:=by
 simp only[rW,UInt8.toNat_ofNat'];congr 1
theorem WE (n j:Nat) (hj:j<n) (x:UInt8) (l:List UInt8):(List.replicate (n-j) 0++l).set (n-1-j) x=List.replicate (n-(j+1)) 0++x::l:=by
 have h:n-j=(n-1-j)+1:=by omega
 have h':n-(j+1)=n-1-j:=by omega
 rw[h,h',List.replicate_succ',List.append_assoc];generalize n-1-j=m;rw[List.set_append_right _ _ (by simp)];simp
theorem abZ (v n:Nat) (h1:v<18446744073709551616) (h2:n≤8):
  PC Tryz.prog Pp [(U64,.int v),(I64,.int n)] [(aV,B (aJ n v))]:=by
 apply abI rfl;simp only[O4,aF,aC,aB,au,aD,forall_const];refine ⟨by omega,by omega,by omega,by omega,?_⟩;refine VC.go_loop (fun j:Nat=> [.int ((v/256^j:Nat):Int),.int ((n:Int)-1-j),B (List.replicate (n-j) 0++aJ j v)]) (fun j=>j≤n) (fun j=>n-j) 0 ?_ (Nat.zero_le _) fun j hj=>?_
 ·simp only[aC,aB,au,aD,forall_const];simp[aJ,Ij]
 ·simp only[aF,aC,aB,au,aD,forall_const];refine ⟨fun hc=>⟨by omega,by omega,by omega,j+1,?_,by omega,by omega⟩,fun hc=>?_⟩
  ·have e1:((n:Int)-1-j).toNat=n-1-j:=by omega
   have e2:arith .shr .u64 ((v/256^j:Nat):Int) 8=((v/256^(j+1):Nat):Int):=by
    rw[tX,Nat.pow_succ,←Nat.div_div_eq_div_mul];simp[IntKind.bits]
   rw[e1,e2,byte_of,qy,WE n j (by omega),←I4];congr 2
   simp;omega
  ·have:j=n:=by omega
   subst this;simp
def jN (len at_ n:Int):Int:=if n<1∨8<n∨at_<0 then 1 else uM len at_ n
def cut (b:List UInt8) (at_ n:Int):List UInt8:=(b.drop at_.toNat).take n.toNat
def oN (b:List UInt8) (at_ n:Int):Nat:=if jN b.length at_ n=0 then be (cut b at_ n) else 0
theorem Ez {len at_ n:Int}:jN len at_ n=0↔1≤n∧n≤8∧0≤at_∧at_≤len∧n≤len-at_:=by
 unfold jN uM;split
 ·simp;omega
 ·split<;>simp<;>omega
theorem Ui {b:List UInt8} {at_ n:Int} (h:at_≤b.length∧n≤b.length-at_) (h0:0≤at_):(cut b at_ n).length=n.toNat:=by
 simp only[cut,List.length_take,List.length_drop];omega
theorem aiC (b:List UInt8) (at_ n:Int) (h:0≤at_) (hn:0≤n):((ofBytes b).take (at_+n).toNat).drop at_.toNat=ofBytes (cut b at_ n):=by
 have e:(at_+n).toNat=at_.toNat+n.toNat:=by omega
 rw[AZ,yD,e,take_drop];rfl
theorem aeC (b:List UInt8) (at_ n:Int) (h1:b.length≤9223372036854775807):
  PC Tryz.prog SK [(aV,B b),(I64,.int at_),(I64,.int n)] [(U64,.int (oN b at_ n)),(I64,.int (jN b.length at_ n))]:=by
 apply adO rfl;simp only[Q0,aF,aC,aB,au,aD,forall_const];refine ⟨fun hc=>?_,fun hc=>⟨_,ad7 _ _ _ ?_ ?_ ?_,fun he=>?_,fun he=>?_⟩⟩
 ·have e:jN b.length at_ n=1:=by rw[jN,if_pos (by omega)]
  simp[oN,e]
 ·omega
 ·simp;omega
 ·omega
 ·have e:jN b.length at_ n=uM b.length at_ n:=by rw[jN,if_neg (by omega)]
  simp only[C.toInt_int,bC] at he ⊢;rw[oN,e,if_neg he];rfl
 ·have e:jN b.length at_ n=0:=by rw[jN,if_neg (by omega)];simpa using he
  have hz:=Ez.1 e;have hl:=Ui ⟨hz.2.2.2.1,hz.2.2.2.2⟩ hz.2.2.1;rw[bC];refine ⟨by omega,by omega,by omega,by omega,?_⟩;refine VC.go_loop (fun i:Nat=> [.int ((be ((cut b at_ n).take i):Nat):Int),.int i]) (fun i=>i≤n.toNat) (fun i=>n.toNat-i) 0 ?_ (Nat.zero_le _) fun i hi=>?_
  ·rfl
  ·simp only[aF,aC,aB,au,aD,forall_const];rw[aiC b at_ n hz.2.2.1 (by omega)];simp only[bC,hl];refine ⟨fun hc=>⟨by omega,by omega,by omega,i+1,?_,by omega,by omega⟩,fun hc=>?_⟩
   ·have hx:=QE (cut b at_ n) i;have hv:=IW (cut b at_ n) i;have hp:256^i≤256^7:=Nat.pow_le_pow_right (by decide) (by omega);have hp':(256:Nat)^7=72057594037927936:=by decide
    have e1:arith .shl .u64 ((be ((cut b at_ n).take i):Nat):Int) 8=((be ((cut b at_ n).take i)*2^8:Nat):Int):=by
     rw[vY,qD];simp[IntKind.bits];omega
    simp only[Int.toNat_natCast,jg,C.toInt_int,e1,qD];have e2:(((cut b at_ n).getD i 0).toNat:Int)%18446744073709551616=((((cut b at_ n).getD i 0).toNat:Nat):Int):=by omega
    rw[e2,BD rfl (by show _<2^64;omega) (by show _<2^64;omega),zF _ _ _ (by omega),R3 _ _ (by omega)];simp
   ·rw[List.take_of_length_le (by omega)];simp only[oN,e,if_true]
theorem aiY (v:Nat) (h:v<18446744073709551616) {k:Nat} (hk:k=8):v<256^k:=by subst hk;simpa using h
def kZ (v:Nat) (n:Int):Int:=if n<1∨8<n then 1 else if v<256^n.toNat then 0 else 6
def kI (v:Nat) (n:Int):List UInt8:=if kZ v n=0 then aJ n.toNat v else []
theorem yM {v:Nat} {n:Int}:kZ v n=0↔1≤n∧n≤8∧v<256^n.toNat:=by
 unfold kZ;split
 ·simp;omega
 ·split
  ·simp[*];omega
  ·simp[*]
theorem aeB (v:Nat) (n:Int) (h1:v<18446744073709551616):
  PC Tryz.prog SI [(U64,.int v),(I64,.int n)] [(aV,B (kI v n)),(I64,.int (kZ v n))]:=by
 apply adN rfl;simp only[QZ,aF,aC,aB,au,aD,forall_const];refine ⟨fun hc=>?_,fun hc=>⟨fun h=>by omega,fun h=>by rw[qD];omega,fun hc'=>?_,fun hc'=>?_⟩⟩
 ·have e:kZ v n=1:=by rw[kZ,if_pos (by omega)]
  simp[kI,e]
 ·have e:kZ v n=6:=by
   rw[kZ,if_neg (by omega),if_neg];have h3:=hc'.2;intro h;apply h3;rw[tX,qD];obtain ⟨m,rfl⟩:∃m:Nat,n=m:=⟨n.toNat,by omega⟩;have e1:((8:Int)*m%18446744073709551616).toNat=8*m:=by omega
   rw[e1,Nat.min_eq_left (by simp[IntKind.bits];omega)];simp only[Int.toNat_natCast] at h;have:(256:Nat)^m=2^(8*m):=by rw[Nat.pow_mul]
   rw[this] at h;exact Int.ediv_eq_zero_of_lt (by omega) (by exact_mod_cast h)
  simp[kI,e]
 ·have e:kZ v n=0:=by
   rw[yM];refine ⟨by omega,by omega,?_⟩;rcases hc' with h|h
   ·exact aiY v h1 (by omega)
   ·rw[tX,qD] at h;obtain ⟨m,rfl⟩:∃m:Nat,n=m:=⟨n.toNat,by omega⟩;have e1:((8:Int)*m%18446744073709551616).toNat=8*m:=by omega
    rw[e1,Nat.min_eq_left (by simp[IntKind.bits];omega)] at h;simp only[Int.toNat_natCast];have:(256:Nat)^m=2^(8*m):=by rw[Nat.pow_mul]
    rw[this];apply Nat.lt_of_not_le;intro hle;have h5:v/2^(8*m)=0:=by exact_mod_cast h
    have h6:0<v/2^(8*m):=Nat.div_pos hle (Nat.pow_pos (by decide));omega
  obtain ⟨m,rfl⟩:∃m:Nat,n=m:=⟨n.toNat,by omega⟩;refine ⟨_,abZ v m h1 (by omega),?_⟩;simp[kI,e]
def put (b:List UInt8) (k:Nat) (x:List UInt8):List UInt8:=b.take k++(x++b.drop (k+x.length))
abbrev Bs (l:List (List UInt8)):C:= .ls (l.map B)
theorem XL (l:List (List UInt8)) (i:Nat) (h:i<l.length):(l.map B).getD i default=B (l.getD i []):=by
 simp[List.getD,h]
theorem U7 (l:List (List UInt8)) (i:Nat) (h:i<l.length):(l.take (i+1)).flatten=(l.take i).flatten++l.getD i []:=by
 rw[List.take_succ_eq_append_getElem h,List.flatten_append];simp[List.getD,h]
theorem join_le (l:List (List UInt8)) (i:Nat):(l.take i).flatten.length≤l.flatten.length:=by
 have h:=congrArg (fun x:List (List UInt8)=>x.flatten.length) (List.take_append_drop i l);simp only[List.flatten_append,List.length_append] at h;omega
theorem DI (l:List (List UInt8)) (h1:l.length≤140737488355328) (h2:l.flatten.length≤140737488355328):
  PC Tryz.prog RG [(.sl aV,Bs l)] [(aV,B l.flatten)]:=by
 apply ac8 rfl;simp only[Qp,aF,aC,aB,au,aD,forall_const];refine VC.go_loop (fun i:Nat=> [.int (((l.take i).flatten.length:Nat):Int),.int i]) (fun i=>i≤l.length) (fun i=>l.length-i) 0 rfl (Nat.zero_le _) fun i hi=>?_;simp only[aF,aC,aB,au,aD,forall_const,List.length_map];have hle:=join_le l i;refine ⟨fun hc=>?_,fun hc=>⟨by omega,by omega,?_⟩⟩
 ·have hle':=join_le l (i+1);have e:=U7 l i (by omega);have e':=congrArg List.length e;rw[List.length_append] at e';simp only[Int.toNat_natCast,XL l i (by omega),dY,bC];refine ⟨by omega,by omega,by omega,by omega,i+1,?_,by omega,by omega⟩;rw[e'];simp
 ·refine VC.go_loop (fun i:Nat=> [B (l.take i).flatten,.int i]) (fun i=>i≤l.length) (fun i=>l.length-i) 0 rfl (Nat.zero_le _) fun j hj=>?_;simp only[aF,aC,aB,au,aD,forall_const,List.length_map];refine ⟨fun hc=>?_,fun hc=>?_⟩
  ·have hle':=join_le l (j+1);have e:=U7 l j (by omega);have e':=congrArg List.length e;rw[List.length_append] at e';simp only[Int.toNat_natCast,XL l j (by omega),dY,bC];refine ⟨by omega,by omega,by omega,by omega,j+1,?_,by omega,by omega⟩;rw[e,lI];simp
  ·rw[List.take_of_length_le (by omega)]
end Go.Vc
set_option maxRecDepth 100000
namespace Go.Vc
open Go Go.Proofs Go.Plain
abbrev rD:Sh:= .pair .bool (.pair .bool (.pair .bool (.pair I64 (.pair U16 (.pair U32 (.pair U32 (.pair (.sl U32) .unit)))))))
abbrev nD (h:Hd):C:= .ls [.bool h.pad,.bool h.ext,.bool h.mark,.int h.typ,.int h.seq,.int h.time,.int h.aH,Ns h.aI]
theorem Ht (h:Hd):PC Tryz.prog RI [(rD,nD h)] [(.bool,.bool (decide h.right))]:=by
 apply ada rfl;simp only[Qr,aF,aC,aB,au,aD,forall_const,List.length_map];congr 3
 by_cases hr:h.right
 ·have:=hr;obtain ⟨h1,h2,h3⟩:=this;simp[hr,h1,show h.typ≤127 by omega,show (h.aI.length:Int)≤15 by omega]
 ·simp only[hr,decide_false];unfold Hd.right at hr;by_cases h1:0≤h.typ<;>by_cases h2:h.typ≤127<;>simp[h1,h2]
  omega
theorem aeD (h:Hd):PC Tryz.prog SL [(rD,nD h)] [(I64,.int (if h.right then 12+4*(h.aI.length:Int) else 0))]:=by
 apply adP rfl;simp only[Q5,aF,aC,aB,au,aD,forall_const,List.length_map];refine ⟨_,Ht h,fun hr=>?_,fun hr=>?_⟩
 ·simp only[gH,decide_eq_false_iff_not] at hr;rw[if_neg hr]
 ·simp only[gH,decide_eq_true_eq] at hr;have:=hr;obtain ⟨h1,h2,h3⟩:=this;rw[if_pos hr];exact ⟨by omega,by omega,rfl⟩
theorem afI (v:Nat) (hv:v<4294967296): [C.int (IntKind.u8.wrap (arith .shr .u32 v 24)),C.int (IntKind.u8.wrap (arith .shr .u32 v 16)),C.int (IntKind.u8.wrap (arith .shr .u32 v 8)),C.int (IntKind.u8.wrap v)]=ofBytes (aJ 4 v):=by
 have e1:arith .shr .u32 (v:Int) 24=((v/2^24:Nat):Int):=by rw[tX];simp[IntKind.bits]
 have e2:arith .shr .u32 (v:Int) 16=((v/2^16:Nat):Int):=by rw[tX];simp[IntKind.bits]
 have e3:arith .shr .u32 (v:Int) 8=((v/2^8:Nat):Int):=by rw[tX];simp[IntKind.bits]
 rw[e1,e2,e3,jU,jU,jU,jU];simp[aJ,ofBytes,Nat.div_div_eq_div_mul]
theorem H7 (b:List UInt8) (v:Nat) (hv:v<4294967296) (hb:b.length≤1000000):PC Tryz.prog SA [(aV,B b),(U32,.int v)] [(aV,B (b++aJ 4 v))]:=by
 apply adT rfl;simp only[HY,aF,aC,aB,au,aD,forall_const,afI v hv,lI,bC,iZ];omega
theorem agl:∀n:Nat,n<16→∀p e:Bool,
  (if e=true then arith .or .u8 (if p=true then arith .or .u8 (IntKind.u8.wrap (arith .or .i64 128 n)) 32 else IntKind.u8.wrap (arith .or .i64 128 n)) 16
   else if p=true then arith .or .u8 (IntKind.u8.wrap (arith .or .i64 128 n)) 32 else IntKind.u8.wrap (arith .or .i64 128 n))=((UInt8.ofNat (128+32*p.toNat+16*e.toNat+n)).toNat:Int):=by decide+kernel
theorem ae2:∀n:Nat,n<128→∀m:Bool,(if m=true then arith .or .u8 (IntKind.u8.wrap (n:Int)) 128 else IntKind.u8.wrap (n:Int))=((UInt8.ofNat (128*m.toNat+n)).toNat:Int):=by decide+kernel
theorem Tm (l:List Nat) (i:Nat) (h:i<l.length):words (l.take (i+1))=words (l.take i)++aJ 4 (l.getD i 0):=by
 rw[List.take_succ_eq_append_getElem h];simp only[words,List.map_append,List.flatten_append];simp[List.getD,h]
theorem VH {l:List Nat} {i:Nat} (h:i<l.length):l.getD i 0∈l:=by
 simp[List.getD,h]
def Az (h:Hd):List UInt8:=if h.right then h.bytes else []
def Ay (h:Hd):Int:=if h.right then 0 else 1
theorem ad9 (h:Hd) (ho:h.ok):PC Tryz.prog RH [(rD,nD h)] [(aV,B (Az h)),(I64,.int (Ay h))]:=by
 apply ac9 rfl;simp only[Qq,aF,aC,aB,au,aD,forall_const,List.length_map];refine ⟨_,Ht h,fun hr=>?_,fun hr=>?_⟩
 ·simp only[gH,decide_eq_false_iff_not] at hr;rw[Az,Ay,if_neg hr,if_neg hr];rfl
 ·simp only[gH,decide_eq_true_eq] at hr;have:=hr;obtain ⟨h1,h2,h3⟩:=this;obtain ⟨o1,o2,o3,o4⟩:=ho;obtain ⟨t,ht⟩:∃t:Nat,h.typ=t:=⟨h.typ.toNat,by omega⟩;have f1:=agl h.aI.length h3 h.pad h.ext;have f2:=ae2 t (by omega) h.mark;have f3:arith .shr .u16 (h.seq:Int) 8=((h.seq/2^8:Nat):Int):=by rw[tX];simp[IntKind.bits]
  have e4: [C.int ((UInt8.ofNat (128+32*h.pad.toNat+16*h.ext.toNat+h.aI.length)).toNat:Int),C.int ((UInt8.ofNat (128*h.mark.toNat+t)).toNat:Int),C.int ((UInt8.ofNat (h.seq/2^8)).toNat:Int),C.int ((UInt8.ofNat h.seq).toNat:Int)]=
    ofBytes (UInt8.ofNat h.first::UInt8.ofNat h.second::aJ 2 h.seq):=by
   simp[ofBytes,aJ,Hd.first,Hd.second,ht]
  rw[ht,f1,f2,f3,jU,jU,e4];have e0:List.replicate (Int.toNat 0) (C.int 0)=[]:=rfl;rw[e0,List.nil_append,bC];refine ⟨by omega,by omega,by omega,by omega,by simp,_,H7 _ _ o2 (by simp),_,H7 _ _ o3 (by simp),?_⟩;refine VC.go_loop (fun i:Nat=> [B ((UInt8.ofNat h.first::UInt8.ofNat h.second::aJ 2 h.seq)++aJ 4 h.time++aJ 4 h.aH++words (h.aI.take i)),.int i]) (fun i=>i≤h.aI.length) (fun i=>h.aI.length-i) 0 ?_ (Nat.zero_le _) fun i hi=>?_
  ·simp only[aC,aB,au,aD,forall_const];simp[words]
  ·simp only[aF,aC,aB,au,aD,forall_const,List.length_map];have hwl:=Hz (h.aI.take i);rw[List.length_take] at hwl;refine ⟨fun hc=>⟨by omega,by omega,?_⟩,fun hc=>?_⟩
   ·rw[Int.toNat_natCast,DV _ _ (by omega)];refine ⟨_,H7 _ _ (o4 _ (VH (by omega))) (by simp;omega),by omega,i+1,?_,by omega,by omega⟩;rw[Tm _ _ (by omega)];simp
   ·rw[List.take_of_length_le (by omega),Az,Ay,if_pos hr,if_pos hr];simp[Hd.bytes]
theorem Hg (b:List UInt8) (i:Nat) (hi:i+4≤b.length) (hb:b.length≤9223372036854775807):PC Tryz.prog QK [(aV,B b),(I64,.int i)] [(U32,.int (num b i 4))]:=by
 apply acv rfl;simp only[PD,aF,aC,aB,au,aD,forall_const];refine ⟨_,_,aeC b i 4 hb,?_⟩;have e:jN b.length i 4=0:=by rw[Ez];omega
 have hl:=oo b i 4;have e2:oN b i 4=num b i 4:=by rw[oN,if_pos e];rfl
 rw[bL,e2,Wn];congr 3
 omega
theorem bits:∀x:Nat,x<256→arith .shr .u8 x 6=((x/64:Nat):Int)∧arith .and .u8 x 15=((x%16:Nat):Int)∧(decide (arith .and .u8 x 32≠0))=decide (x/32%2=1)∧(decide (arith .and .u8 x 16≠0))=decide (x/16%2=1)∧
  (decide (arith .and .u8 x 128≠0))=decide (128≤x)∧arith .and .u8 x 127=((x%128:Nat):Int)∧arith .quo .u8 x 64=((x/64:Nat):Int)∧arith .rem .u8 x 16=((x%16:Nat):Int)∧arith .rem .u8 x 128=((x%128:Nat):Int)∧
  (decide (arith .rem .u8 (arith .quo .u8 x 32) 2=1))=decide (x/32%2=1)∧(decide (arith .rem .u8 (arith .quo .u8 x 16) 2=1))=decide (x/16%2=1):=by decide+kernel
theorem lG (b:List UInt8) (i:Nat):(((b.getD i 0).toNat:Nat):Int)=(at_ b i:Int):=rfl
theorem ou {b:List UInt8} {e:Int} (h:fu b=e) (he:e≠0):nD (rG b)= .ls [.bool false,.bool false,.bool false,.int 0,.int 0,.int 0,.int 0,.ls []]∧hdN b=0:=by
 rw[rG,hdN,if_neg (by rw[h];exact he),if_neg (by rw[h];exact he)];exact ⟨rfl,rfl⟩
theorem yQ (n:Nat) (h:n<65536):IntKind.i64.wrap (n:Int)=n:=kS (by omega)
theorem ajN (b:List UInt8) (h:4≤b.length):arith .or .u16 (arith .shl .u16 (IntKind.u16.wrap (at_ b 2:Int)) 8) (IntKind.u16.wrap (at_ b 3:Int))=(num b 2 2:Int):=by
 have h2:=fF b 2;have h3:=fF b 3;have e1:IntKind.u16.wrap (at_ b 2:Int)=(at_ b 2:Int):=by rw[za];omega
 have e2:IntKind.u16.wrap (at_ b 3:Int)=(at_ b 3:Int):=by rw[za];omega
 have e3:arith .shl .u16 (at_ b 2:Int) 8=((at_ b 2*2^8:Nat):Int):=by
  rw[vY,za];simp[IntKind.bits];omega
 rw[e1,e2,e3,BD rfl (by show _<2^16;omega) (by show _<2^16;omega),zF _ _ _ (by omega)];have e4:(b.drop 2).take 2=[b.getD 2 0,b.getD 3 0]:=by
  match b,h with
  |_::_::x::y::l,_=>rfl
 simp[num,e4,at_,be]
theorem UK (b:List UInt8) (i:Nat):((List.range (i+1)).map fun j=>num b (12+4*j) 4)=((List.range i).map fun j=>num b (12+4*j) 4)++ [num b (12+4*i) 4]:=by
 rw[List.range_succ,List.map_append];rfl
theorem aeE (b:List UInt8) (hb:b.length≤140737488355328):PC Tryz.prog SN [(aV,B b)] [(rD,nD (rG b)),(I64,.int (hdN b)),(I64,.int (fu b))]:=by
 apply adQ rfl;have i0:Int.toNat 0=0:=rfl;have i1:Int.toNat 1=1:=rfl;have i2:Int.toNat 2=2:=rfl;have i3:Int.toNat 3=3:=rfl;obtain ⟨q1,q2,q3,q4,_,_,_⟩:=bits (at_ b 0) (fF b 0);obtain ⟨_,_,_,_,q5,q6,_⟩:=bits (at_ b 1) (fF b 1);have q7:=yQ (at_ b 0%16) (by omega);have q8:=yQ (at_ b 1%128) (by omega);simp only[Q6,aF,aC,aB,au,aD,forall_const,bC,jg,i0,lG,q1,q2,q7];refine ⟨fun hc=>?_,fun hc=>⟨by omega,fun hv=>?_,fun hv=>⟨by omega,by omega,by omega,fun hs=>?_,fun hs=>⟨by omega,by omega,by omega,by omega,by omega,by omega,?_⟩⟩⟩⟩
 ·have e:fu b=2:=by unfold fu;rw[if_pos (by omega)]
  rw[(ou e (by decide)).1,(ou e (by decide)).2,e];rfl
 ·have e:fu b=3:=by unfold fu;rw[if_neg (by omega),if_pos (by omega)]
  rw[(ou e (by decide)).1,(ou e (by decide)).2,e];rfl
 ·have e:fu b=2:=by unfold fu;rw[if_neg (by omega),if_neg (by omega),if_pos (by omega)]
  rw[(ou e (by decide)).1,(ou e (by decide)).2,e];rfl
 ·have e:fu b=0:=by rw[uj];omega
  refine ⟨_,Hg b 4 (by omega) (by omega),_,Hg b 8 (by omega) (by omega),?_⟩;refine VC.go_loop (fun i:Nat=> [.int i,Ns ((List.range i).map fun j=>num b (12+4*j) 4)]) (fun i=>i≤at_ b 0%16) (fun i=>at_ b 0%16-i) 0 rfl (Nat.zero_le _) fun i hi=>?_;simp only[aF,aC,aB,au,aD,forall_const,bC,jg,i0,i1,i2,i3,lG,q2,q7,q3,q4,q5,q6,q8,List.length_map,List.length_range];refine ⟨fun hc=>⟨by omega,by omega,?_⟩,fun hc=>?_⟩
  ·have ei:(12:Int)+4*(i:Int)=((12+4*i:Nat):Int):=by omega
   rw[ei];refine ⟨_,Hg b (12+4*i) (by omega) (by omega),by simp;omega,by omega,i+1,?_,by omega,by omega⟩;rw[UK,Sr];simp
  ·have hi2:i=at_ b 0%16:=by omega
   rw[ajN b (by omega),rG,hdN,if_pos e,if_pos e,e,hi2];simp[Hd.of]
end Go.Vc
set_option maxRecDepth 100000
namespace Go.Vc
open Go Go.Proofs Go.Plain
abbrev gU:Sh:= .pair rD (.pair U16 (.pair aV (.pair aV (.pair I64 .unit))))
abbrev fP (k:Pk):C:= .ls [nD k.hd,.int (k.ak:Int),B k.ext,B k.pay,.int (k.pad:Int)]
theorem Rf (b:List UInt8) (hb:b.length≤1000000):PC Tryz.prog SH [(aV,B b)] [(I64,.int (dF b:Int)),(I64,.int (if dF b=0 then 5 else 0))]:=by
 apply adM rfl;simp only[QY,aF,aC,aB,au,aD,forall_const,bC];have hlt:=fF b (b.length-1);refine ⟨fun h0=>?_,fun h0=>?_⟩
 ·have h0:b.length=0:=by omega
  unfold dF;rw[if_pos h0];rfl
 ·have h0:¬b.length=0:=by omega
  have e1:((b.length:Int)-1).toNat=b.length-1:=by omega
  have e2:((ofBytes b).getD ((b.length:Int)-1).toNat default).toInt=(at_ b (b.length-1):Int):=by
   rw[e1,jg];rfl
  rw[e2];have e3:IntKind.i64.wrap (at_ b (b.length-1):Int)=(at_ b (b.length-1):Int):=by unfold IntKind.wrap;simp[IntKind.bits,IntKind.signed];omega
  rw[e3];unfold dF;rw[if_neg h0];refine ⟨by omega,by omega,by omega,fun h=>?_,fun h=>?_⟩
  ·rw[if_pos (by omega)];rfl
  ·rw[if_neg (by omega),if_neg (by omega)]
theorem AO (b:List UInt8) (hb:b.length≤1000000):PC Tryz.prog QG [(aV,B b)] [(aV,B b)]:=by
 apply acp rfl;simp only[Pw,aF,aC,aB,au,aD,forall_const,bC];refine ⟨fun h0=>?_,fun h0=>?_⟩
 ·obtain rfl:b=[]:=List.eq_nil_of_length_eq_zero (by omega);rfl
 ·have:=DI [b] (by simp) (by simp;omega);simp only[List.map_cons,List.map_nil,List.flatten_cons,List.flatten_nil,List.append_nil] at this;exact ⟨_,this,rfl⟩
theorem Zl (n:Nat) (h:n≤1000000):arith .rem .i64 (n:Int) 4=((n%4:Nat):Int)∧arith .quo .i64 (n:Int) 4=((n/4:Nat):Int):=by
 constructor
 ·show (n:Int).tmod ((4:Nat):Int)=_;rw[←Int.ofNat_tmod]
 ·show IntKind.i64.wrap ((n:Int).tdiv 4)=_;have:(n:Int).tdiv 4=((n/4:Nat):Int):=by
   show (n:Int).tdiv ((4:Nat):Int)=_;rw[←Int.ofNat_tdiv]
  rw[this];unfold IntKind.wrap;simp[IntKind.bits,IntKind.signed];omega
theorem adu (k:Pk) (hb:k.ext.length≤1000000):PC Tryz.prog QI [(gU,fP k)] [(.bool,.bool (decide k.fits))]:=by
 apply acs rfl;simp only[Py,aF,aC,aB,au,aD,forall_const,bC];obtain ⟨r1,r2⟩:=Zl k.ext.length hb;rw[r1,r2];refine ⟨_,Ht k.hd,fun h=>?_,fun h=>⟨fun h2=>?_,fun h2=>⟨fun h3=>?_,fun h3=>?_⟩⟩⟩
 ·congr 3
  symm
  rw[decide_eq_false_iff_not];rintro ⟨f1,f2,f3,f4,f5⟩;rcases h with (h|h)|h
  ·simp[f1] at h
  ·omega
  ·omega
 ·congr 3
  symm
  rw[decide_eq_false_iff_not];rintro ⟨f1,f2,f3,f4,f5⟩;obtain ⟨h2,h3⟩:=h2;obtain ⟨g1,g2⟩:=f4 h2;rw[g1,g2] at h3;simp at h3
 all_goals
  have hk:k.hd.right∧k.ext.length%4=0∧k.ext.length/4≤65535∧(k.hd.ext=false→k.ak=0∧k.ext=[]):=by
   obtain ⟨h1,h4⟩:=h;simp only[not_or,gH,decide_eq_false_iff_not,Decidable.not_not] at h1;refine ⟨h1.1,by omega,by omega,fun he=>?_⟩;rcases h2 with h2|h2
   ·exact absurd he h2
   ·exact ⟨by omega,List.eq_nil_of_length_eq_zero (by omega)⟩
  obtain ⟨k1,k2,k3,k4⟩:=hk;have hf:k.fits↔(if k.hd.pad then 1≤k.pad∧k.pad≤255 else k.pad=0):=⟨fun hh=>hh.2.2.2.2,fun hh=>⟨k1,k2,k3,k4,hh⟩⟩;rw[h3] at hf;congr 3
  by_cases hq:k.fits
  ·have:=hf.1 hq;simp only[if_true,Bool.false_eq_true,if_false] at this;rw[decide_eq_true hq];first
   |(rw[if_pos (by omega)];simp;omega)
   |(simp;omega)
  ·have:=mt hf.2 hq;simp only[if_true,Bool.false_eq_true,if_false] at this;rw[decide_eq_false hq];first
   |(split<;>simp<;>omega)
   |(simp;omega)
theorem QC (k:Pk) (hr:k.hd.right) (hb:k.ext.length≤1000000) (hp:k.pay.length≤1000000) (hd:k.pad≤1000000):PC Tryz.prog RA [(gU,fP k)] [(I64,.int (k.sum:Int))]:=by
 apply ac6 rfl;simp only[Qn,aF,aC,aB,au,aD,forall_const,bC];have h1:=aeD k.hd;rw[if_pos hr] at h1;have h3:=hr.2.2;refine ⟨_,h1,?_⟩;simp only[bL];refine ⟨by omega,by omega,fun _=>by omega,fun _=>by omega,?_⟩;unfold Pk.sum;cases k.hd.ext<;>simp<;>omega
theorem yw (k:Pk) (hb:k.ext.length≤1000000) (hp:k.pay.length≤1000000) (hd:k.pad≤1000000):PC Tryz.prog P8 [(gU,fP k)] [(.bool,.bool (decide k.right))]:=by
 apply abU rfl;simp only[Pg,aF,aC,aB,au,aD,forall_const,bC];refine ⟨_,adu k hb,?_⟩;by_cases hf:k.fits
 ·refine ⟨_,fun _=>QC k hf.1 hb hp hd,?_⟩;unfold Pk.right;simp only[hf,bL,true_and,decide_true,if_true,gH];congr 3
  rw[Bool.eq_iff_iff,decide_eq_true_eq,decide_eq_true_eq];omega
 ·refine ⟨.int 0,fun h=>by simp[hf] at h,?_⟩;unfold Pk.right;simp[hf]
theorem TP (b:List UInt8) (n:Nat) (h1:1≤n) (h2:n≤255) (hb:b.length≤1000000):PC Tryz.prog U9 [(aV,B b),(I64,.int (n:Int))] [(aV,B (b++trail n)),(I64,.int 0)]:=by
 apply ae6 rfl;simp only[Tp,aF,aC,aB,au,aD,forall_const,bC];refine ⟨fun h=>by omega,fun _=>⟨by omega,by omega,by omega,by omega,by omega,by omega,by omega,?_⟩⟩;have e0:((b.length:Int)+n).toNat=b.length+n:=by omega
 have e1:((b.length:Int)+n-1).toNat=b.length+(n-1):=by omega
 have e2:IntKind.u8.wrap (n:Int)=((UInt8.ofNat n).toNat:Int):=by unfold IntKind.wrap;simp[IntKind.bits,IntKind.signed]
 have e3:List.take (b.length+n) (ofBytes b)=ofBytes b:=List.take_of_length_le (by simp);rw[e0,e1,e2];simp only[Int.toNat_zero,List.drop_zero,e3];congr 3
 unfold splice trail;rw[if_neg (by omega)];obtain ⟨m,rfl⟩:∃m,n=m+1:=⟨n-1,by omega⟩;simp only[Nat.add_sub_cancel,lI,List.take_zero,List.nil_append,List.length_replicate,Nat.sub_zero,bC,List.take_of_length_le (show (ofBytes b).length≤b.length+(m+1) by simp),Nat.zero_add,List.drop_replicate];rw[show b.length+(m+1)-b.length=m+1 by omega,List.set_append_right _ _ (by simp),bC,Nat.add_sub_cancel_left];rw[←lI,←lI];congr 1
 have e4:ofBytes (List.replicate m 0)=List.replicate m (C.int 0):=by simp[ofBytes]
 rw[e4,List.replicate_succ',List.set_append_right _ _ (by simp),List.length_replicate,Nat.sub_self];rfl
end Go.Vc
set_option maxRecDepth 100000
namespace Go.Vc
open Go Go.Proofs Go.Plain
theorem be2 (L:List UInt8) (i:Nat) (h:i+2≤L.length):num L i 2=at_ L i*256+at_ L (i+1):=by
 unfold num;have e:(L.drop i).take 2=[L.getD i 0,L.getD (i+1) 0]:=by
  rw[vM (show i<L.length by omega),vM (show i+1<L.length by omega),List.take_succ_cons,List.take_succ_cons,List.take_zero];simp[at_]
 rw[e];simp[be,at_]
theorem ajz (L:List UInt8) (i:Nat) (h:i+2≤L.length):arith .or .i64 (arith .shl .i64 (IntKind.i64.wrap ((L.getD i 0).toNat:Int)) 8) (IntKind.i64.wrap ((L.getD (i+1) 0).toNat:Int))=(num L i 2:Int):=by
 have h1:=fF L i;have h2:=fF L (i+1);rw[be2 L i h];show arith .or .i64 (arith .shl .i64 (IntKind.i64.wrap (at_ L i:Int)) 8) (IntKind.i64.wrap (at_ L (i+1):Int))=_;have w:∀n:Nat,n<256→IntKind.i64.wrap (n:Int)=(n:Int):=fun n hn=>by unfold IntKind.wrap;simp[IntKind.bits,IntKind.signed];omega
 have w2:∀n:Nat,n<65536→IntKind.i64.wrap (n:Int)=(n:Int):=fun n hn=>by unfold IntKind.wrap;simp[IntKind.bits,IntKind.signed];omega
 rw[w _ h1,w _ h2,vY];have e1:(at_ L i:Int)*2^(min (8:Int).toNat IntKind.i64.bits)=((at_ L i*256:Nat):Int):=by simp[IntKind.bits]
 rw[e1,w2 _ (by omega),Vl (by simp[IntKind.bits];omega) (by simp[IntKind.bits];omega)];rw[show at_ L i*256=at_ L i*2^8 by rfl,zF _ 8 _ (by omega)]
theorem ajy (L:List UInt8) (i:Nat) (h:i+2≤L.length):arith .or .u16 (arith .shl .u16 (IntKind.u16.wrap ((L.getD i 0).toNat:Int)) 8) (IntKind.u16.wrap ((L.getD (i+1) 0).toNat:Int))=(num L i 2:Int):=by
 have h1:=fF L i;have h2:=fF L (i+1);rw[be2 L i h];show arith .or .u16 (arith .shl .u16 (IntKind.u16.wrap (at_ L i:Int)) 8) (IntKind.u16.wrap (at_ L (i+1):Int))=_;have w2:∀n:Nat,n<65536→IntKind.u16.wrap (n:Int)=(n:Int):=fun n hn=>by unfold IntKind.wrap;simp[IntKind.bits,IntKind.signed];omega
 rw[w2 _ (by omega),w2 _ (by omega),vY];have e1:(at_ L i:Int)*2^(min (8:Int).toNat IntKind.u16.bits)=((at_ L i*256:Nat):Int):=by simp[IntKind.bits]
 rw[e1,w2 _ (by omega),BD rfl (by show _<2^16;omega) (by show _<2^16;omega)];rw[show at_ L i*256=at_ L i*2^8 by rfl,zF _ 8 _ (by omega)]
theorem BI (b:List UInt8) (p i n:Nat):num (b.drop p) i n=num b (p+i) n:=by unfold num;rw[List.drop_drop]
theorem om {b:List UInt8} {e:Int} (he:aZ b=e) (h:e≠0):fP (eB b)= .ls [.ls [.bool false,.bool false,.bool false,.int 0,.int 0,.int 0,.int 0,.ls []],.int 0,.ls [],.ls [],.int 0]∧Dp b=[]:=by
 unfold eB Dp;rw[he,if_neg h,if_neg h];exact ⟨rfl,rfl⟩
theorem E9 {b:List UInt8} (he:aZ b=0):fP (eB b)= .ls [nD (Hd.of b),.int ((if (Hd.of b).ext then num b (hdN b) 2 else 0:Nat):Int),B (if (Hd.of b).ext then (b.drop (hdN b+4)).take (4*num b (hdN b+2) 2) else []),B ((bS b).take ((bS b).length-dB b)),.int (dB b:Int)]∧Dp b=(bS b).drop ((bS b).length-dB b):=by
 unfold eB Dp;rw[if_pos he,if_pos he];exact ⟨rfl,rfl⟩
theorem adt (b:List UInt8) (hb:b.length≤1000000):PC Tryz.prog QH [(aV,B b)] [(gU,fP (eB b)),(aV,B (Dp b)),(I64,.int (aZ b))]:=by
 apply acr rfl;simp only[Px,aF,aC,aB,au,aD,forall_const,bC];refine ⟨fun h=>?_,fun h=>?_⟩
 ·have e:aZ b=4:=by unfold aZ;rw[if_pos (by omega)]
  obtain ⟨q1,q2⟩:=om e (by decide);rw[q1,q2,e];rfl
 ·refine ⟨_,_,_,aeE b (by omega),fun he=>?_,fun he=>?_⟩
  ·have he:fu b≠0:=he;have e:aZ b=fu b:=by unfold aZ;rw[if_neg (by omega),if_pos he]
   obtain ⟨q1,q2⟩:=om e he;rw[q1,q2,e];rfl
  ·have he:fu b=0:=he;have hz:=uj.1 he;have hN:hdN b=12+4*(at_ b 0%16):=by unfold hdN;rw[if_pos he]
   have hH:rG b=Hd.of b:=by unfold rG;rw[if_pos he]
   have h65:¬65535<b.length:=by omega
   have hE:aZ b=if (Hd.of b).ext=true∧(b.length<hdN b+4∨b.length<hdN b+4+4*num b (hdN b+2) 2) then 2 else if (Hd.of b).pad=true∧dF (bS b)=0 then 5 else 0:=by
    unfold aZ;rw[if_neg h65,if_neg (fun h=>h he)]
   rw[hH];simp only[bL,Int.toNat_natCast,AZ,yD,List.take_length,jg,bC,Int.toNat_zero,List.drop_zero,show (1:Int).toNat=1 from rfl,show (2:Int).toNat=2 from rfl,show (3:Int).toNat=3 from rfl,show (4:Int).toNat=4 from rfl];have hn0:=BI b (hdN b) 0 2;have hn2:=BI b (hdN b) 2 2;have hdl:(b.drop (hdN b)).length=b.length-hdN b:=by simp
   have hd4:(b.drop (hdN b)).drop 4=b.drop (hdN b+4):=by rw[List.drop_drop]
   generalize hL:b.drop (hdN b)=L at hn0 hn2 hdl hd4;refine ⟨by omega,by omega,by omega,fun hx=>⟨fun hs=>?_,fun hs=>?_⟩,fun hx=>?_⟩
   ·have hx:(Hd.of b).ext=true:=hx;have e:aZ b=2:=by rw[hE,if_pos ⟨hx,by omega⟩]
    obtain ⟨q1,q2⟩:=om e (by decide);rw[q1,q2,e];rfl
   ·have hx:(Hd.of b).ext=true:=hx;have hw:=ajz L 2 (by omega);rw[hw];have hlt:=oo L 2 2;rw[hd4];generalize hM:b.drop (hdN b+4)=M;have hMl:M.length=b.length-(hdN b+4):=by rw[←hM];simp
    generalize hwn:num L 2 2=wn at hn2 hlt;have e4:(4*(wn:Int)).toNat=4*wn:=by omega
    rw[e4];refine ⟨by omega,by omega,by omega,by omega,by omega,by omega,by omega,fun hs2=>?_,fun hs2=>?_⟩
    ·have e:aZ b=2:=by rw[hE,if_pos ⟨hx,by omega⟩]
     obtain ⟨q1,q2⟩:=om e (by decide);rw[q1,q2,e];rfl
    ·have hno:¬((Hd.of b).ext=true∧(b.length<hdN b+4∨b.length<hdN b+4+4*num b (hdN b+2) 2)):=fun hh=>by
      have:=hh.2;omega
     have hu:=ajy L 0 (by omega);rw[hu,hn0,Nat.add_zero];have hT:bS b=M.drop (4*wn):=by unfold bS;rw[if_pos hx,hM,←hn2]
     refine ⟨by omega,by omega,_,AO _ (by simp;omega),by omega,by omega,by omega,?_⟩;generalize hTT:M.drop (4*wn)=T at hT;have L8:T.length≤1000000:=by rw[←hTT];simp;omega
     obtain ⟨t1,t2,_⟩:=Cb T;refine ⟨fun hp=>⟨_,_,Rf T L8,fun hy=>?_,fun hy=>?_⟩,fun hp=>?_⟩
     ·have hp:(Hd.of b).pad=true:=hp;have hy:(if dF T=0 then (5:Int) else 0)≠0:=hy;have ht:dF T=0:=by
       by_cases h0:dF T=0
       ·exact h0
       ·rw[if_neg h0] at hy;exact absurd rfl hy
      have e:aZ b=5:=by rw[hE,if_neg hno,if_pos ⟨hp,by rw[hT];exact ht⟩]
      obtain ⟨q1,q2⟩:=om e (by decide);rw[q1,q2,e];rfl
     ·have hp:(Hd.of b).pad=true:=hp;have hy:(if dF T=0 then (5:Int) else 0)=0:=hy;have ht:dF T≠0:=by
       intro h0;rw[if_pos h0] at hy;cases hy
      have e:aZ b=0:=by rw[hE,if_neg hno,if_neg (fun hh=>ht (by rw[←hT];exact hh.2))]
      have hpp:dB b=dF T:=by unfold dB;rw[if_pos hp,hT]
      obtain ⟨q1,q2⟩:=E9 e;rw[hpp,hT] at q1 q2;rw[q1,q2,e,if_pos hx,if_pos hx];have e5:((T.length:Int)-(dF T:Int)).toNat=T.length-dF T:=by omega
      simp only[bL,e5];refine ⟨by omega,by omega,by omega,_,AO _ (by simp;omega),by omega,by omega,by omega,?_⟩;rw[hM,←hn2];rfl
     ·have hp:(Hd.of b).pad=false:=hp;have e:aZ b=0:=by rw[hE,if_neg hno,if_neg (fun hh=>by rw[hp] at hh;cases hh.1)]
      have hpp:dB b=0:=by unfold dB;rw[if_neg (by rw[hp];decide)]
      obtain ⟨q1,q2⟩:=E9 e;rw[hpp,hT] at q1 q2;rw[q1,q2,e,if_pos hx,if_pos hx];have e5:((T.length:Int)-0).toNat=T.length-0:=by omega
      simp only[bL,e5];refine ⟨by omega,by omega,by omega,_,AO _ (by simp;omega),by omega,by omega,by omega,?_⟩;rw[hM,←hn2];rfl
   ·have hx:¬(Hd.of b).ext=true:=fun hh=>by
     have h3:(Hd.of b).ext=false:=hx;rw[h3] at hh;cases hh
    have hno:¬((Hd.of b).ext=true∧(b.length<hdN b+4∨b.length<hdN b+4+4*num b (hdN b+2) 2)):=fun hh=>hx hh.1;have hT:bS b=L:=by unfold bS;rw[if_neg hx,hL]
    clear hd4 hn0 hn2;revert hT hdl;generalize L=T;intro hdl hT;have L8:T.length≤1000000:=by omega
    obtain ⟨t1,t2,_⟩:=Cb T;refine ⟨fun hp=>⟨_,_,Rf T L8,fun hy=>?_,fun hy=>?_⟩,fun hp=>?_⟩
    ·have hp:(Hd.of b).pad=true:=hp;have hy:(if dF T=0 then (5:Int) else 0)≠0:=hy;have ht:dF T=0:=by
      by_cases h0:dF T=0
      ·exact h0
      ·rw[if_neg h0] at hy;exact absurd rfl hy
     have e:aZ b=5:=by rw[hE,if_neg hno,if_pos ⟨hp,by rw[hT];exact ht⟩]
     obtain ⟨q1,q2⟩:=om e (by decide);rw[q1,q2,e];rfl
    ·have hp:(Hd.of b).pad=true:=hp;have hy:(if dF T=0 then (5:Int) else 0)=0:=hy;have ht:dF T≠0:=by
      intro h0;rw[if_pos h0] at hy;cases hy
     have e:aZ b=0:=by rw[hE,if_neg hno,if_neg (fun hh=>ht (by rw[←hT];exact hh.2))]
     have hpp:dB b=dF T:=by unfold dB;rw[if_pos hp,hT]
     obtain ⟨q1,q2⟩:=E9 e;rw[hpp,hT] at q1 q2;rw[q1,q2,e,if_neg hx,if_neg hx];have e5:((T.length:Int)-(dF T:Int)).toNat=T.length-dF T:=by omega
     simp only[bL,e5];refine ⟨by omega,by omega,by omega,_,AO _ (by simp;omega),by omega,by omega,by omega,?_⟩;rfl
    ·have hp:(Hd.of b).pad=false:=hp;have e:aZ b=0:=by rw[hE,if_neg hno,if_neg (fun hh=>by rw[hp] at hh;cases hh.1)]
     have hpp:dB b=0:=by unfold dB;rw[if_neg (by rw[hp];decide)]
     obtain ⟨q1,q2⟩:=E9 e;rw[hpp,hT] at q1 q2;rw[q1,q2,e,if_neg hx,if_neg hx];have e5:((T.length:Int)-0).toNat=T.length-0:=by omega
     simp only[bL,e5];refine ⟨by omega,by omega,by omega,_,AO _ (by simp;omega),by omega,by omega,by omega,?_⟩;rfl
theorem vK (b:List UInt8) (hb:b.length≤1000000):PC Tryz.prog QJ [(aV,B b)] [(gU,fP (eB b)),(I64,.int (aZ b))]:=by
 apply acu rfl;simp only[Pz,aF,aC,aB,au,aD,forall_const];exact ⟨_,_,_,adt b hb,rfl⟩
def oL (k:Pk) (room:Int):Int:=if ¬k.right then 1 else if room<k.sum then 7 else 0
def C9 (k:Pk) (room:Int):List UInt8:=if oL k room=0 then k.bytes else []
theorem agM {k:Pk} {room:Int}:oL k room=0↔k.right∧(k.sum:Int)≤room:=by
 unfold oL;split
 ·rename_i h;simp[h]
 ·rename_i h;have h:k.right:=Decidable.not_not.1 h;split
  ·simp;omega
  ·simp[h];omega
theorem Zk (k:IntKind) (n j:Nat) (hj:j≤k.bits):arith .shr k ((n:Nat):Int) ((j:Nat):Int)=((n/2^j:Nat):Int):=by
 rw[tX,Int.toNat_natCast,Nat.min_eq_left hj];simp
abbrev sM:Sh:= .pair I64 (.pair I64 (.pair I64 .unit))
abbrev tC (s:Sp):C:= .ls [.int (s.id:Int),.int (s.pos:Int),.int (s.size:Int)]
abbrev oU (l:List Sp):C:= .ls (l.map tC)
abbrev If1:Sh:= .dh 221 .unit
abbrev If2:Sh:= .dh 222 .unit
theorem two_bytes (kk:IntKind) (h8:8≤kk.bits) (v:Nat): [C.int (IntKind.u8.wrap (arith .shr kk (v:Int) 8)),C.int (IntKind.u8.wrap (v:Int))]=ofBytes (aJ 2 v):=by
 have e:=Zk kk v 8 h8;rw[show ((8:Nat):Int)=8 from rfl] at e;rw[e,jU,jU];simp[aJ,ofBytes]
theorem acF (k:Pk) (room:Int) (ho:k.ok) (hb:k.ext.length≤1000000) (hp:k.pay.length≤1000000) (hd:k.pad≤1000000):PC Tryz.prog P7 [(gU,fP k),(I64,.int room)] [(aV,B (C9 k room)),(I64,.int (oL k room))]:=by
 apply abT rfl;simp only[Pf,aF,aC,aB,au,aD,forall_const,bC];refine ⟨_,yw k hb hp hd,fun hr=>?_,fun hr=>?_⟩
 ·have hr:¬k.right:=by simpa using hr
  have e:oL k room=1:=by unfold oL;rw[if_pos hr]
  unfold C9;rw[e];rfl
 ·have hr:k.right:=by simpa using hr
  have hl:=yC k (trail k.pad) (Jw (by have:=hr.1.2.2.2.2;split at this<;>omega)).1;have hs:=hr.2;refine ⟨_,QC k hr.1.1 hb hp hd,fun h=>?_,fun h=>?_⟩
  ·have h:room<(k.sum:Int):=h;have e:oL k room=7:=by unfold oL;rw[if_neg (fun hh=>hh hr),if_pos h]
   unfold C9;rw[e];rfl
  ·have h:¬room<(k.sum:Int):=by simpa using h
   have e:oL k room=0:=agM.2 ⟨hr,by omega⟩;have eb:C9 k room=k.bytes:=if_pos e;have hw:=ad9 k.hd ho.1;have Az:Az k.hd=k.hd.bytes:=if_pos hr.1.1;have Ay:Ay k.hd=0:=if_pos hr.1.1;rw[Az,Ay] at hw;rw[e,eb];refine ⟨_,_,hw,fun h2=>absurd rfl h2,fun _=>?_⟩;obtain ⟨_,rq⟩:=Zl k.ext.length hb;rw[rq];have hab: [C.int (IntKind.u8.wrap (arith .shr .u16 (k.ak:Int) 8)),C.int (IntKind.u8.wrap (k.ak:Int)),C.int (IntKind.u8.wrap (arith .shr .i64 ((k.ext.length/4:Nat):Int) 8)),C.int (IntKind.u8.wrap ((k.ext.length/4:Nat):Int))]=ofBytes (aJ 2 k.ak++aJ 2 (k.ext.length/4)):=by
    rw[←lI,←two_bytes .u16 (by decide),←two_bytes .i64 (by decide)];rfl
   rw[hab];have hlen:=hl;unfold dL at hlen;simp only[List.length_append] at hlen;have htr:∀X:List UInt8,X++(k.pay++trail k.pad)=X++k.pay++trail k.pad:=fun X=>by rw[List.append_assoc]
   have hby:k.bytes=k.hd.bytes++jd k++k.pay++trail k.pad:=by unfold Pk.bytes dL;simp only[List.append_assoc]
   have rA:=hr.1.2.2.2.2;refine ⟨fun hx=>?_,fun hx=>?_⟩
   ·have hex:jd k=aJ 2 k.ak++(aJ 2 (k.ext.length/4)++k.ext):=if_pos hx;have j1:=DI [k.hd.bytes,aJ 2 k.ak++aJ 2 (k.ext.length/4),k.ext] (by simp) (by rw[hex] at hlen;simp at hlen ⊢;omega);have j2:=DI [k.hd.bytes++jd k,k.pay] (by simp) (by simp;omega);have f1: [k.hd.bytes,aJ 2 k.ak++aJ 2 (k.ext.length/4),k.ext].flatten=k.hd.bytes++jd k:=by rw[hex];simp
    have f2: [k.hd.bytes++jd k,k.pay].flatten=k.hd.bytes++jd k++k.pay:=by simp
    rw[f1] at j1;rw[f2] at j2;refine ⟨_,j1,_,j2,fun hq=>?_,fun hq=>?_⟩
    ·rw[if_pos hq] at rA;exact ⟨_,_,TP _ k.pad rA.1 rA.2 (by simp;omega),by rw[hby]⟩
    ·rw[if_neg (by rw[hq];decide)] at rA;rw[hby,rA];simp[trail]
   ·have hex:jd k=[]:=if_neg (by rw[hx];decide);have j2:=DI [k.hd.bytes,k.pay] (by simp) (by simp;omega);have f2: [k.hd.bytes,k.pay].flatten=k.hd.bytes++jd k++k.pay:=by rw[hex];simp
    rw[f2] at j2;refine ⟨_,j2,fun hq=>?_,fun hq=>?_⟩
    ·rw[if_pos hq] at rA;exact ⟨_,_,TP _ k.pad rA.1 rA.2 (by simp;omega),by rw[hby]⟩
    ·rw[if_neg (by rw[hq];decide)] at rA;rw[hby,rA];simp[trail]
end Go.Vc
set_option maxRecDepth 100000
namespace Go.Vc
open Go Go.Proofs Go.Plain
theorem Zu (n:Nat) (h:n<9223372036854775807):arith .rem .i64 (n:Int) 4=((n%4:Nat):Int):=by
 rw[BA _ _ _ (by omega)];omega
theorem X5 (x:Nat) (h:x<256):arith .shr .u8 (x:Int) 4=((x/16:Nat):Int):=Zk .u8 x 4 (by decide)
theorem KC (x:Nat) (h:x<256):arith .and .u8 (x:Int) 15=((x%16:Nat):Int):=by
 have:=Uq (k:= .u8) rfl (a:=x) (b:=15) h (by decide);rw[show ((15:Nat):Int)=15 from rfl] at this;rw[this,Nat.and_two_pow_sub_one_eq_mod x 4]
theorem adj (x:Nat) (h:x<256):PC Tryz.prog OD [(.unit,.ls []),(U8,.int (x:Int))] [(.bool,.bool (decide (x/16=15∨x/16=0)))]:=by
 apply abg rfl;simp only[NG,aF,aC,aB,au,aD,forall_const,X5 x h];have e:(if (decide (((x/16:Nat):Int)=15))=true then true else decide (((x/16:Nat):Int)=0))=decide (x/16=15∨x/16=0):=by
  rw[Bool.eq_iff_iff];by_cases h1:x/16=15
  ·simp[h1]
  ·have e1:¬((x/16:Nat):Int)=15:=by omega
   rw[if_neg (by simpa using e1)];simp only[decide_eq_true_eq,h1,false_or];omega
 first
  |(rw[←e];simp)
  |(simp only[decide_eq_true_eq] at e ⊢;rw[e])
theorem adw (x:Nat):PC Tryz.prog OE [(.unit,.ls []),(U8,.int (x:Int))] [(.bool,.bool false)]:=by
 apply abh rfl;simp only[NH,aF,aC,aB,au,aD,forall_const]
theorem acC (b:List UInt8) (h:0<b.length):PC Tryz.prog Oa [(.unit,.ls []),(aV,B b)] [(sM,.ls [.int ((at_ b 0/16:Nat):Int),.int 1,.int ((at_ b 0%16+1:Nat):Int)]),(.bool,.bool true)]:=by
 have hx:=fF b 0;apply aaY rfl;simp only[Nh,aF,aC,aB,au,aD,forall_const,bC,jg,Int.toNat_zero,lG,X5 _ hx,KC _ hx];rw[kS (by omega),kS (by omega)];refine ⟨by omega,by omega,by omega,?_⟩;simp
theorem acI (b:List UInt8) (h:2≤b.length):PC Tryz.prog GX [(.unit,.ls []),(aV,B b)] [(sM,.ls [.int ((at_ b 0:Nat):Int),.int 2,.int ((at_ b 1:Nat):Int)]),(.bool,.bool true)]:=by
 have hx:=fF b 0;have hy:=fF b 1;apply MP rfl;simp only[GV,aF,aC,aB,au,aD,forall_const,bC,jg,Int.toNat_zero,Int.toNat_one,lG];rw[kS (by omega),kS (by omega)];refine ⟨fun hc=>by omega,fun _=>⟨by omega,by omega,rfl⟩⟩
theorem acH (b:List UInt8) (h:b.length<2):PC Tryz.prog GX [(.unit,.ls []),(aV,B b)] [(sM,.ls [.int 0,.int 0,.int 0]),(.bool,.bool false)]:=by
 apply MP rfl;simp only[GV,aF,aC,aB,au,aD,forall_const,bC];refine ⟨fun hc=>trivial,fun hc=>by omega⟩
theorem LC (b:List UInt8) (k:Nat):B (b.drop k)=C.ls (List.drop k (List.take b.length (ofBytes b))):=by
 rw[List.take_of_length_le (by simp),yD]
theorem Vv (l:List Sp) (s:Sp):l.map tC++ [tC s]=(l++ [s]).map tC:=by simp
structure jO where
 p:Nat
 out:List Sp
 m:List C
def jO.enc (s:jO):List C:=[.ls [],.int 0,oU s.out,.int (s.p:Int),.ls s.m]
def jO.inv (aj:Bool) (b:List UInt8) (s:jO):Prop:=s.p≤b.length∧wk aj b 0 []=wk aj b s.p s.out∧(∀x:Nat,gu s.m x=decide (x∈iE s.out))∧s.out.length≤s.p
theorem jO.next {aj:Bool} {b:List UInt8} {s:jO} (h:s.inv aj b) (h0:s.p<b.length) (h1:¬at_ b s.p=0) (h2:¬(aj=true∧(at_ b s.p/16=15∨at_ b s.p/16=0))) (h3:¬(aj=false∧b.length≤s.p+1))
  (h4:¬b.length<(bB aj b s.p).pos+(bB aj b s.p).size) (h5:¬(bB aj b s.p).id∈iE s.out):
  (jO.mk ((bB aj b s.p).pos+(bB aj b s.p).size) (s.out++ [bB aj b s.p]) (jG s.m (bB aj b s.p).id (.bool true))).inv aj b∧b.length-((bB aj b s.p).pos+(bB aj b s.p).size)<b.length-s.p:=by
 obtain ⟨i1,i2,i3,i4⟩:=h;have Am:=yY aj b s.p;refine ⟨⟨by simp only;omega,?_,fun x=>?_,?_⟩,by omega⟩
 ·rw[i2,wk_step h0 h1 h2 h3 h4 h5]
 ·simp only;rw[vS,i3];by_cases hx:((bB aj b s.p).id:Int)=x
  ·have:(bB aj b s.p).id=x:=by omega
   rw[if_pos hx];simp[iE,this]
  ·have:¬x=(bB aj b s.p).id:=by omega
   rw[if_neg hx];simp[iE,this]
 ·simp only[List.length_append,List.length_singleton];omega
theorem aeb (b:List UInt8) (hb:b.length≤1000000) (c0:C) (hc0:c0= .ls []):PC Tryz.prog RL [(If1,c0),(aV,B b)] [(.sl sM,oU (wk true b 0 []).1),(I64,.int (wk true b 0 []).2)]:=by
 subst hc0;apply ade rfl;simp only[Qt,aF,aC,aB,au,aD,forall_const,bC];refine VC.go_loop jO.enc (jO.inv true b) (fun s=>b.length-s.p) ⟨0,[],[]⟩ (by simp[jO.enc,E.eval]) ⟨Nat.zero_le _,rfl,fun x=>by simp[tQ,iE],Nat.le_refl _⟩ fun s hs=>?_;obtain ⟨i1,i2,i3,i4⟩:=id hs;have hx:=fF b s.p;simp only[jO.enc,aF,aC,aB,au,aD,forall_const,bC,jg,Int.toNat_natCast,lG];refine ⟨fun hc=>⟨by omega,by omega,fun hz=>?_,fun hz=>?_⟩,fun hc=>?_⟩
 ·refine ⟨by omega,⟨s.p+1,s.out,s.m⟩,by simp,⟨by simp only;omega,?_,i3,by simp only;omega⟩,by simp only;omega⟩;rw[i2,wz (by omega) (by omega)]
 ·refine ⟨by omega,by omega,_,adj _ hx,?_⟩;simp only[aC,aB,au,aD,forall_const];refine ⟨fun he=>?_,fun he=>?_⟩
  ·rw[i2,zf (by omega) (by omega) ⟨rfl,he⟩]
  ·have hbd:=acC (b.drop s.p) (by rw[List.length_drop];omega);rw[Kq,Nat.add_zero,LC] at hbd;refine ⟨by omega,by omega,by omega,_,_,hbd,?_⟩;simp only[aC,aB,au,aD,forall_const];refine ⟨fun hf=>by simp at hf,by omega,by omega,fun hl=>?_,fun hl=>⟨fun ht=>?_,fun ht=>?_⟩⟩
   ·rw[i2,wB (by omega) (by omega) (by simp;omega) (by simp) (by simp[bB];omega)];rfl
   ·have ht:gu s.m ((at_ b s.p/16:Nat):Int)=true:=ht;rw[i3] at ht;rw[i2,yV (by omega) (by omega) (by simp;omega) (by simp) (by simp[bB];omega) (by simpa [bB] using ht)];rfl
   ·have ht:gu s.m ((at_ b s.p/16:Nat):Int)=false:=ht;rw[i3] at ht;obtain ⟨n1,n2⟩:=jO.next (aj:=true) hs (by omega) (by omega) (by simp;omega) (by simp) (by simp[bB];omega) (by simpa [bB] using ht);refine ⟨?_,by omega,_,?_,n1,n2⟩
    ·simp only[List.length_map,List.length_cons,List.length_nil];omega
    ·simp only[jO.enc,bB,if_true,←Vv];rw[show (1+(s.p:Int))=((s.p+1:Nat):Int) by omega,←Int.natCast_add];simp only[oU,List.map_append,List.map_cons,List.map_nil]
 ·rw[i2,qH (by omega)]
theorem aea (b:List UInt8) (hb:b.length≤1000000) (c0:C) (hc0:c0= .ls []):PC Tryz.prog RJ [(If2,c0),(aV,B b)] [(.sl sM,oU (wk false b 0 []).1),(I64,.int (wk false b 0 []).2)]:=by
 subst hc0;apply adb rfl;simp only[Qs,aF,aC,aB,au,aD,forall_const,bC];refine VC.go_loop jO.enc (jO.inv false b) (fun s=>b.length-s.p) ⟨0,[],[]⟩ (by simp[jO.enc,E.eval]) ⟨Nat.zero_le _,rfl,fun x=>by simp[tQ,iE],Nat.le_refl _⟩ fun s hs=>?_;obtain ⟨i1,i2,i3,i4⟩:=id hs;have hx:=fF b s.p;have hy:=fF b (s.p+1);simp only[jO.enc,aF,aC,aB,au,aD,forall_const,bC,jg,Int.toNat_natCast,lG];refine ⟨fun hc=>⟨by omega,by omega,fun hz=>?_,fun hz=>?_⟩,fun hc=>?_⟩
 ·refine ⟨by omega,⟨s.p+1,s.out,s.m⟩,by simp,⟨by simp only;omega,?_,i3,by simp only;omega⟩,by simp only;omega⟩;rw[i2,wz (by omega) (by omega)]
 ·refine ⟨by omega,by omega,_,adw _,?_⟩;simp only[aC,aB,au,aD,forall_const];by_cases h1:b.length≤s.p+1
  ·have hbd:=acH (b.drop s.p) (by rw[List.length_drop];omega);rw[LC] at hbd;refine ⟨fun he=>by simp at he,by omega,by omega,by omega,_,_,hbd,?_⟩;simp only[aC,aB,au,aD,forall_const];refine ⟨?_,fun hf=>by simp at hf⟩;rw[i2,BF (by omega) (by omega) (by simp) ⟨rfl,h1⟩];rfl
  ·have hbd:=acI (b.drop s.p) (by rw[List.length_drop];omega);rw[Kq,Kq,Nat.add_zero,LC] at hbd;refine ⟨fun he=>by simp at he,by omega,by omega,by omega,_,_,hbd,?_⟩;simp only[aC,aB,au,aD,forall_const];refine ⟨fun hf=>by simp at hf,by omega,by omega,fun hl=>?_,fun hl=>⟨fun ht=>?_,fun ht=>?_⟩⟩
   ·rw[i2,wB (by omega) (by omega) (by simp) (by simp;omega) (by simp[bB];omega)];rfl
   ·have ht:gu s.m ((at_ b s.p:Nat):Int)=true:=ht;rw[i3] at ht;rw[i2,yV (by omega) (by omega) (by simp) (by simp;omega) (by simp[bB];omega) (by simpa [bB] using ht)];rfl
   ·have ht:gu s.m ((at_ b s.p:Nat):Int)=false:=ht;rw[i3] at ht;obtain ⟨n1,n2⟩:=jO.next (aj:=false) hs (by omega) (by omega) (by simp) (by simp;omega) (by simp[bB];omega) (by simpa [bB] using ht);refine ⟨?_,by omega,_,?_,n1,n2⟩
    ·simp only[List.length_map,List.length_cons,List.length_nil];omega
    ·simp only[jO.enc,bB,Bool.false_eq_true,if_false,←Vv];rw[show (2+(s.p:Int))=((s.p+2:Nat):Int) by omega,←Int.natCast_add];simp only[oU,List.map_append,List.map_cons,List.map_nil]
 ·rw[i2,qH (by omega)]
theorem aip (q:Nat) (h:q<65536):arith .and .u16 (q:Int) 65520=((q/16*16:Nat):Int):=by
 have:=Uq (k:= .u16) rfl (a:=q) (b:=65520) h (by decide);rw[show ((65520:Nat):Int)=65520 from rfl] at this;rw[this];congr 1
 have e:q/16*16=(q>>>4)<<<4:=by rw[Nat.shiftRight_eq_div_pow,Nat.shiftLeft_eq]
 rw[e];apply Nat.eq_of_testBit_eq;intro i;rw[Nat.testBit_and,Nat.testBit_shiftLeft,Nat.testBit_shiftRight];by_cases hi:i<16
 ·have h65:∀i:Fin 16,(65520:Nat).testBit i.1=decide (i.1≥4):=by decide
  rw[h65 ⟨i,hi⟩];by_cases h4:i≥4
  ·simp[h4,show 4+(i-4)=i by omega]
  ·simp[h4]
 ·have h1:q.testBit i=false:=Nat.testBit_lt_two_pow (Nat.lt_of_lt_of_le h (Nat.pow_le_pow_right (n:=2) (by decide) (show 16≤i by omega)));have h2:q.testBit (4+(i-4))=false:=by rw[show 4+(i-4)=i by omega];exact h1
  rw[h1,h2];simp
theorem Hu (q:Nat) (hq:q<65536) (b:List UInt8) (hb:b.length≤1000000):PC Tryz.prog RO [(U16,.int (q:Int)),(aV,B b)] [(.sl sM,oU (spots q b).1),(I64,.int (spots q b).2)]:=by
 apply adg rfl;simp only[Qv,aF,aC,aB,au,aD,forall_const,aip q hq];unfold spots;refine ⟨fun h1=>⟨_,_,aeb b hb _ rfl,?_⟩,fun h1=>⟨fun h2=>⟨_,_,aea b hb _ rfl,?_⟩,fun h2=>?_⟩⟩
 ·rw[if_pos (by omega)]
 ·rw[if_neg (by omega),if_pos (by omega)]
 ·rw[if_neg (by omega),if_neg (by omega)];rfl
theorem zh (l:List Sp) (i:Nat) (h:i<l.length):(l.map tC).getD ((i:Int)).toNat default=tC (l.getD i Sp.zero):=by simp[List.getD,h]
theorem aiI (l:List Sp) (i:Nat) (h:i<l.length):l.take (i+1)=l.take i++ [l.getD i Sp.zero]:=by rw[List.take_succ_eq_append_getElem h];simp[List.getD,h]
theorem FB {l:List Sp} {i:Nat} (h:i<l.length):l.getD i Sp.zero∈l:=by simp[List.getD,h]
theorem akH (n:Nat) (h:n≤100000000):arith .rem .i64 (4-((n%4:Nat):Int)) 4=(((4-n%4)%4:Nat):Int):=by
 rw[BA _ _ _ (by omega)];omega
theorem ae8 (b:List UInt8) (hb:b.length≤100000000):PC Tryz.prog Ud [(aV,B b)] [(aV,B (CS b))]:=by
 apply aes rfl;simp only[R6,aF,aC,aB,au,aD,forall_const,bC,Zu _ (show b.length<9223372036854775807 by omega),akH _ hb];refine ⟨by omega,by omega,by omega,by omega,by omega,?_⟩;rw[←Int.natCast_add,Int.toNat_natCast];congr 3
 rw[Ij,List.take_of_length_le (by simp),Int.toNat_zero];have e:List.drop 0 (ofBytes b)=ofBytes b:=rfl;rw[e,PW];congr 1
 unfold CS splice;simp only[List.take_zero,List.nil_append,List.length_replicate,Nat.sub_zero,Nat.zero_add,List.drop_replicate];rw[List.take_of_length_le (by omega),Nat.add_sub_cancel_left]
theorem adv (l:List El) (hl:l.length≤1000000):PC Tryz.prog QL [(.sl gM,dV l)] [(.bool,.bool (nH l))]:=by
 apply acw rfl;simp only[PE,aF,aC,aB,au,aD,forall_const,List.length_map];refine VC.go_loop (fun i:Nat=> [.bool false,.int (i:Int)]) (fun i=>i≤l.length∧∀e∈l.take i,fM true e) (fun i=>l.length-i) 0 rfl ⟨Nat.zero_le _,by simp⟩ fun i hi=>?_;obtain ⟨i1,i2⟩:=hi;simp only[aF,aC,aB,au,aD,forall_const,List.length_map];refine ⟨fun hc=>?_,fun hc=>?_⟩
 ·have hk:i<l.length:=by omega
  have hm:=r9 hk;have ht:=uD l i hk;rw[kF l i hk];generalize l.getD i El.zero=e at hm ht;simp only[eT,gQ,bL,dY,bC];refine ⟨by omega,by omega,fun h=>?_,fun h=>⟨by omega,i+1,by simp,⟨by omega,?_⟩,by omega⟩⟩
  ·have:nH l=false:=decide_eq_false fun hall=>by
    have:=tO (hall e hm);omega
   rw[this]
  ·rw[ht];intro x hx;rcases List.mem_append.1 hx with hx|hx
   ·exact i2 x hx
   ·rw[List.mem_singleton] at hx;subst hx;simp only[fM,if_true];omega
 ·have he:i=l.length:=by omega
  rw[he,List.take_length] at i2;have:nH l=true:=decide_eq_true i2;rw[this]
theorem acG (l:List El) (hl:l.length≤1000000):PC Tryz.prog P9 [(.sl gM,dV l)] [(U16,.int (mI l:Nat))]:=by
 apply abV rfl;simp only[Ph,aF,aC,aB,au,aD,forall_const];refine ⟨_,Hw l hl,?_⟩;simp only[aC,aB,au,aD,forall_const];unfold mI;refine ⟨fun h=>?_,fun h=>⟨_,adv l hl,?_⟩⟩
 ·rw[if_neg (by simpa using h)];rfl
 ·rw[if_pos (by simpa using h)];simp only[aC,aB,au,aD,forall_const];refine ⟨fun h=>?_,fun h=>?_⟩<;>rw[h]<;>rfl
theorem Ej (aj:Bool) (l:List El) (e:El):kY aj (l++ [e])=kY aj l++enc aj e:=by simp[kY]
theorem Jk (aj:Bool):∀(l:List El),(∀e∈l,e.data.length≤255)→(kY aj l).length≤257*l.length
 | [],_=>by simp[kY]
 |e::l,h=>by
  have ih:=Jk aj l (fun x hx=>h x (by simp[hx]));have h1:=h e (by simp);have h2:=tN aj e;have h3:Plain.ahead aj≤2:=by unfold Plain.ahead;split<;>omega
  have e1:kY aj (e::l)=enc aj e++kY aj l:=by simp[kY]
  rw[e1,List.length_append,List.length_cons];omega
theorem aj0 (a b:Nat) (ha:a<16) (hb:b<16):arith .or .i64 (arith .shl .i64 (a:Int) 4) (b:Int)=((16*a+b:Nat):Int):=by
 have h1:arith .shl .i64 (a:Int) 4=((16*a:Nat):Int):=by
  rw[vY,show (2:Int)^(min (4:Int).toNat IntKind.i64.bits)=16 from rfl,kS (by omega)];omega
 rw[h1,Vl (Nat.lt_of_lt_of_le (show 16*a<256 by omega) (by decide)) (Nat.lt_of_lt_of_le (show b<256 by omega) (by decide))];congr 1
 have key:∀a b:Fin 16,16*a.1|||b.1=16*a.1+b.1:=by decide
 exact key ⟨a,ha⟩ ⟨b,hb⟩
theorem vV {l:List El} (h:eF l):∀e∈l,1≤e.id∧e.id≤255∧e.data.length≤255:=by
 intro e he;obtain ⟨j,hj,rfl⟩:=List.getElem_of_mem he;have:=h j hj;unfold p8 at this;rw[List.getD_eq_getElem?_getD,List.getElem?_eq_getElem hj] at this;exact ⟨this.1,this.2.1,this.2.2.1⟩
theorem ajr {e:El} (h:fM true e): [C.int (IntKind.u8.wrap (arith .or .i64 (arith .shl .i64 e.id 4) ((e.data.length:Int)-1)))]++ofBytes e.data=ofBytes (enc true e):=by
 obtain ⟨h1,h2,h3,h4⟩:=tO h;obtain ⟨n,hn⟩:∃n:Nat,e.id=n:=⟨e.id.toNat,by omega⟩;have e1:(e.data.length:Int)-1=((e.data.length-1:Nat):Int):=by omega
 rw[hn,e1,aj0 n _ (by omega) (by omega),jU];unfold enc;rw[if_pos rfl,hn,Int.toNat_natCast,show 16*n+(e.data.length-1)=16*n+e.data.length-1 by omega];simp only[ofBytes,List.map_cons,List.cons_append,List.nil_append]
theorem aic {e:El} (h:fM true e): [C.int (IntKind.u8.wrap (16*e.id+(e.data.length:Int)-1))]++ofBytes e.data=ofBytes (enc true e):=by
 obtain ⟨h1,h2,h3,h4⟩:=tO h;obtain ⟨n,hn⟩:∃n:Nat,e.id=n:=⟨e.id.toNat,by omega⟩;have e1:16*(n:Int)+(e.data.length:Int)-1=((16*n+e.data.length-1:Nat):Int):=by omega
 rw[hn,e1,jU];unfold enc;rw[if_pos rfl,hn,Int.toNat_natCast];simp only[ofBytes,List.map_cons,List.cons_append,List.nil_append]
theorem V6 {e:El} (h:1≤e.id∧e.id≤255∧e.data.length≤255): [C.int (IntKind.u8.wrap e.id),C.int (IntKind.u8.wrap (e.data.length:Int))]++ofBytes e.data=ofBytes (enc false e):=by
 obtain ⟨n,hn⟩:∃n:Nat,e.id=n:=⟨e.id.toNat,by omega⟩;rw[hn,jU,jU];unfold enc;rw[if_neg (by simp),hn,Int.toNat_natCast];simp only[ofBytes,List.map_cons,List.cons_append,List.nil_append]
def Gv (l:List El):List UInt8:=if eF l then nJ l else []
def Gu (l:List El):Int:=if eF l then 0 else 1
theorem Q9 {aj:Bool} {l:List El} (h:eF l) (i:Nat) (hi:i≤l.length):(kY aj (l.take i)).length≤257*i:=by
 have:=Jk aj (l.take i) (fun e he=>(vV h e (List.mem_of_mem_take he)).2.2);rw[List.length_take] at this;omega
theorem aec (l:List El) (hl:l.length≤10000):PC Tryz.prog RN [(.sl gM,dV l)] [(U16,.int (mI l:Nat)),(aV,B (Gv l)),(I64,.int (Gu l))]:=by
 apply adf rfl;simp only[Qu,aF,aC,aB,au,aD,forall_const,List.length_map];refine ⟨_,acG l (by omega),?_⟩;simp only[aC,aB,au,aD,forall_const];by_cases hr:eF l
 ·have hp:=DN hr;have hw:Gv l=nJ l:=if_pos hr;have he:Gu l=0:=if_pos hr;rw[hp,hw,he];have hfit:=(A9 hr).1;unfold nJ;generalize hn:nH l=aj at hfit;refine ⟨fun h=>?_,fun h=>?_⟩
  ·exfalso;unfold wP at h;cases aj<;>simp at h
  ·refine VC.go_loop (fun i:Nat=> [B (kY aj (l.take i)),.int (i:Int)]) (fun i=>i≤l.length) (fun i=>l.length-i) 0 (by simp[E.eval,kY,ofBytes]) (Nat.zero_le _) fun i hi=>?_;have hlen:=Q9 (aj:=aj) hr i hi;simp only[aF,aC,aB,au,aD,forall_const,List.length_map,bC,List.length_cons,List.length_nil];refine ⟨fun hc=>?_,fun hc=>?_⟩
   ·have hk:i<l.length:=by omega
    have hm:=hfit _ (r9 hk);have hm2:=vV hr _ (r9 hk);have ht:=uD l i hk;rw[kF l i hk];generalize l.getD i El.zero=e at hm ht hm2;simp only[eT,gQ,bL,dY,bC];refine ⟨by omega,by omega,fun h1=>?_,fun h1=>?_⟩
    ·have hnar:aj=true:=by
      unfold wP at h1;cases aj
      ·simp at h1
      ·rfl
     subst hnar;refine ⟨by omega,by omega,by omega,by omega,i+1,?_,by omega,by omega⟩;rw[List.append_assoc,ajr hm,lI,ht,Ej];simp
    ·have hnar:aj=false:=by
      unfold wP at h1;cases aj
      ·rfl
      ·simp at h1
     subst hnar;refine ⟨by omega,by omega,by omega,i+1,?_,by omega,by omega⟩;rw[List.append_assoc,V6 hm2,lI,ht,Ej];simp
   ·have hi2:i=l.length:=by omega
    rw[hi2,List.take_length] at hlen ⊢;refine ⟨_,ae8 (kY aj l) (by omega),rfl⟩
 ·have hp:mI l=0:=if_neg hr;have hw:Gv l=[]:=if_neg hr;have he:Gu l=1:=if_neg hr;rw[hp,hw,he];refine ⟨fun _=>rfl,fun h=>by simp at h⟩
theorem Ta (b:List UInt8) (l:List Sp) (i:Nat) (h:i<l.length):(l.take (i+1)).map (dQ b)=(l.take i).map (dQ b)++ [dQ b (l.getD i Sp.zero)]:=by rw[aiI l i h,List.map_append];rfl
theorem YJ (b:List UInt8) (s:Sp) (h:s.pos+s.size≤b.length):C.ls ((List.take ((s.pos:Int)+(s.size:Int)).toNat (ofBytes b)).drop ((s.pos:Int)).toNat)=B (dQ b s).data:=by
 rw[←Int.natCast_add,Int.toNat_natCast,Int.toNat_natCast,AZ,yD];unfold dQ;congr 2
 rw[List.drop_take,Nat.add_sub_cancel_left]
theorem vN (q:Nat) (b:List UInt8):(spots q b).1.length≤b.length:=by
 have key:∀(aj:Bool) (n p:Nat) (out:List Sp),b.length-p≤n→out.length≤p→p≤b.length→(wk aj b p out).1.length≤b.length:=by
  intro aj n;induction n with
  |zero=>intro p out h1 h2 h3;rw[qH (by omega)];simp only;omega
  |succ n ih=>
   intro p out h1 h2 h3;by_cases hp:p<b.length
   ·by_cases h0:at_ b p=0
    ·rw[wz hp h0];exact ih _ _ (by omega) (by omega) (by omega)
    ·by_cases hs:aj=true∧(at_ b p/16=15∨at_ b p/16=0)
     ·rw[zf hp h0 hs];simp only;omega
     ·by_cases hw:aj=false∧b.length≤p+1
      ·rw[BF hp h0 hs hw];simp
      ·by_cases hl:b.length<(bB aj b p).pos+(bB aj b p).size
       ·rw[wB hp h0 hs hw hl];simp
       ·by_cases ht:(bB aj b p).id∈iE out
        ·rw[yV hp h0 hs hw hl ht];simp
        ·rw[wk_step hp h0 hs hw hl ht];have:=yY aj b p;exact ih _ _ (by omega) (by simp;omega) (by omega)
   ·rw[qH hp];simp only;omega
 unfold spots;split
 ·exact key true _ 0 [] (Nat.le_refl _) (Nat.zero_le _) (Nat.zero_le _)
 ·split
  ·exact key false _ 0 [] (Nat.le_refl _) (Nat.zero_le _) (Nat.zero_le _)
  ·simp
theorem Rh (q:Nat) (hq:q<65536) (b:List UInt8) (hb:b.length≤1000000):PC Tryz.prog SQ [(U16,.int (q:Int)),(aV,B b)] [(.sl gM,dV (iC q b)),(I64,.int (spots q b).2)]:=by
 obtain ⟨g1,g2,_⟩:=jS q b;have g3:=vN q b;apply adR rfl;simp only[Q7,aF,aC,aB,au,aD,forall_const];refine ⟨_,_,Hu q hq b hb,?_⟩;simp only[aC,aB,au,aD,forall_const,List.length_map,bC];unfold iC;generalize (spots q b).1=l at g1 g2 g3;refine ⟨fun h=>?_,fun h=>?_⟩
 ·rcases g2 with g2|⟨g2,_⟩
  ·exact absurd g2 h
  ·rw[g2];rfl
 ·rw[h];refine VC.go_loop (fun i:Nat=> [dV ((l.take i).map (dQ b)),.int (i:Int)]) (fun i=>i≤l.length) (fun i=>l.length-i) 0 rfl (Nat.zero_le _) fun i hi=>?_;simp only[aF,aC,aB,au,aD,forall_const,List.length_map,bC,List.length_cons,List.length_nil,List.length_take];refine ⟨fun hc=>?_,fun hc=>?_⟩
  ·have hk:i<l.length:=by omega
   have hm:=g1 _ (FB hk);have ht:=Ta b l i hk;rw[zh l i hk];generalize l.getD i Sp.zero=s at hm ht;have hcut:=YJ b s hm;simp only[eT,gQ,bL,dY,hcut];have hcl:=congrArg (fun c:C=>c.toList.length) hcut;simp only[dY,bC] at hcl;have hdl:(dQ b s).data.length=s.size:=by unfold dQ;simp;omega
   refine ⟨by omega,by omega,by omega,by omega,by omega,by omega,?_,by omega,by omega,i+1,?_,by omega,by omega⟩
   ·rw[hcl];omega
   ·rw[ht];simp only[dV,List.map_append,List.map_cons,List.map_nil];rfl
  ·rw[show i=l.length by omega,List.take_length]
theorem JA:∀(n:Nat) (l:List Nat),l.Nodup→(∀x∈l,x<n)→l.length≤n
 |0,l,_,h=>by
  cases l with
  |nil=>exact Nat.le_refl _
  |cons x l=>exact absurd (h x (by simp)) (Nat.not_lt_zero x)
 |n+1,l,hd,h=>by
  have ih:=JA n (l.erase n) (hd.erase n) fun x hx=>by
   have h1:=(hd.mem_erase_iff).1 hx;have:=h x h1.2;omega
  rw[List.length_erase] at ih;split at ih<;>omega
theorem aeQ (q:Nat) (b:List UInt8):(iC q b).length≤256:=by
 obtain ⟨_,_,h⟩:=jS q b;have h1:=(A9 h).2;have h2:=vV h;have:=JA 256 _ h1 (by
  intro x hx;obtain ⟨e,he,rfl⟩:=List.mem_map.1 hx;have:=h2 e he;omega)
 simpa using this
end Go.Vc
