/-
  Contracts of functions of the program, each out of its condition or by a walk, and plain lemmas.
-/
import Derived.Test.YtaehhpempnelhaaGreatDoorQZd
import Derived.Shelf.Abstract
import Derived.TacticsInMore
import Derived.LoopNIn
import Derived.LoopIn
import Derived.RegionTactic
import Derived.ChangeAlike
import Derived.Test.YtaehhpempnelhaaGreatDoorRows
import Derived.Lib.LaidU8
import Derived.PinnedBridge
import Derived.RangeFuncBox
import Derived.RangeFuncLeaves
set_option maxRecDepth 100000
namespace Go.Vc
open Go Go.Proofs Go.Plain Tryz
open Go.Lib (decDigits nDigits)
end Go.Vc
namespace Go.Vc
open Go Go.Proofs Go.Plain Tryz
open Go.Lib (decDigits nDigits)
end Go.Vc
namespace Go.Vc
open Go Go.Proofs Go.Plain Tryz
open Go.Lib (decDigits nDigits)
theorem ay5(s:List UInt8)(p:Pl):uy rG s=some p↔fM p/\fO p/\nQ p=s:=av9 axU axT s p
theorem au7{p:Pl}(hp:fM p)(hn:fO p):uy rG (nQ p)=some p:=(ay5 _ _).2 ⟨hp,hn,rfl⟩
theorem atx{p:Pl}(h:Bg p)(hp:fM p)(hn:fO p):(nQ p).length<=600000:=by
 have:=agp p hp hn;obtain⟨h1,h2,h3,h4,_⟩:=adC h;omega
end Go.Vc
namespace Go.Vc
open Go Go.Proofs Go.RowKit Go.Plain Tryz
abbrev at1:FuncId:=18
theorem Rs(s:List UInt8)(hs:s.length<=1000000):PC prog at1 [(.str,.str s)] [(ig,iC ((uy rG s).getD Pl.zero)),(I64,.int (if(uy rG s).isSome then 0 else 6))]:=by
 refine PC.qX (by decide) ⟨⟨_,func18,by kernel_rfl,by kernel_rfl⟩,fun w N vs aX hrd=>?_⟩;obtain⟨v,r,rfl,⟨us,hu,rfl⟩,hr⟩:=hrd;simp only[fI]at hr;subst hr;simp only[Rd]at hu;subst hu;refine(au6 w aX s hs _ rfl).mono fun e w' ⟨cs,he,hrd,hb⟩=>⟨_,he,⟨[.agg cs,.int .i64 (if(uy rG s).isSome then 0 else 6)],⟨_,_,rfl,⟨cs.toList,hrd.mono (aS _) fun b h _=>⟨rfl,.inr h⟩,rfl⟩,⟨_,_,rfl,⟨_,rfl,rfl⟩,rfl⟩⟩,rfl⟩,hb⟩
end Go.Vc
namespace Go.Vc
open Go Go.Proofs Go.Plain Tryz
theorem azX{c:C}(h:Ty ou c):∃e:El,c=nW e:=by
 obtain⟨_,_,rfl,h1,_,_,e2,h2,e3⟩:=h;obtain⟨a,rfl,_⟩:=EW h1;obtain⟨b,rfl⟩:=af9 h2;simp only[Ty,C.ls.injEq]at e2 e3;subst e3 e2;exact⟨⟨a,b⟩,rfl⟩
theorem ahh{c:C}(h:Ty (.sl ou) c):∃l:List El,c=ny l/\l.length<=maxLen:=by
 obtain⟨l,rfl,hl,hx⟩:=h;obtain⟨es,rfl,_⟩:=Oi (e:=nW) (P:=fun _=>True) fun x hx2=>by
  obtain⟨e,he⟩:=azX (hx x hx2);exact⟨e,he,trivial⟩
 exact⟨es,rfl,by simpa using hl⟩
theorem azW{c:C}(h:Ty yG c):∃e:Mp,c=um e:=by
 obtain⟨_,_,rfl,h1,_,_,e2,h2,e3⟩:=h;obtain⟨a,rfl,_⟩:=EW h1;obtain⟨b,rfl,_⟩:=EW h2;simp only[Ty,C.ls.injEq]at e2 e3;subst e3 e2;exact⟨⟨a,b⟩,rfl⟩
theorem ayw{c:C}(h:Ty (.sl yG) c):∃l:List Mp,c=CG l:=by
 obtain⟨l,rfl,hl,hx⟩:=h;obtain⟨es,rfl,_⟩:=Oi (e:=um) (P:=fun _=>True) fun x hx2=>by
  obtain⟨e,he⟩:=azW (hx x hx2);exact⟨e,he,trivial⟩
 exact⟨es,rfl⟩
theorem aw6{c:C}(h:Ty (.sl I64) c):∃l:List Int,c=Ints l:=by
 obtain⟨l,rfl,hl,hx⟩:=h;obtain⟨es,rfl,_⟩:=Oi (e:=C.int) (P:=fun _=>True) fun x hx2=>by
  obtain⟨e,he,_⟩:=EW (hx x hx2);exact⟨e,he,trivial⟩
 exact⟨es,rfl⟩
theorem aA6{c:C}(h:Ty ig c):∃p:Pl,c=iC p/\fO p/\p.jf.length<=maxLen/\p.jh.length<=maxLen:=by
 obtain⟨_,_,rfl,⟨sm,rfl⟩,_,l1,e1,⟨m,rfl⟩,_,l2,e2,⟨st,rfl⟩,_,l3,e3,h3,_,l4,e4,⟨sq,rfl⟩,_,l5,e5,h5,_,l6,e6,⟨dY,rfl⟩,_,l7,e7,h7,_,l8,e8,⟨ss,rfl⟩,_,l9,e9,h9,_,l10,e10,h10,_,l11,e11,h11,_,l12,e12,h12,_,l13,e13,h13,_,l14,e14,⟨np,rfl⟩,e15⟩:=h;obtain⟨ty,rfl,_⟩:=EW h3;obtain⟨seq,rfl,q5⟩:=OP rfl h5;obtain⟨time,rfl,q7⟩:=OP rfl h7;obtain⟨bZ,rfl,q9⟩:=OP rfl h9;obtain⟨maps,rfl⟩:=ayw h10;obtain⟨jf,rfl,o1⟩:=ahh h11;obtain⟨jg,rfl⟩:=aw6 h12;obtain⟨jh,rfl,o2⟩:=ahh h13;simp only[Ty,C.ls.injEq]at e1 e2 e3 e4 e5 e6 e7 e8 e9 e10 e11 e12 e13 e14 e15;subst e15 e14 e13 e12 e11 e10 e9 e8 e7 e6 e5 e4 e3 e2 e1;simp only[IntKind.bits]at q5 q7 q9;exact⟨⟨sm,m,st,ty,sq,seq,dY,time,ss,bZ,maps,jf,jg,jh,np⟩,rfl,⟨by simp<;>omega,by simp<;>omega,by simp<;>omega,by simp<;>omega,by simp<;>omega,by simp<;>omega⟩,o1,o2⟩
theorem aCv{p:Pl}(h:Bg p):lJ p:=by
 obtain⟨h1,h2,h3,h4,_⟩:=adC h;unfold lJ;omega
end Go.Vc
namespace Go.Vc
open Go Go.Proofs Go.RowKit Go.Shelf Tryz
abbrev AZ:List Value:=[.int .i64 1,.int .i64 205,.int .i64 1,.int .i64 2,.int .i64 205,.int .i64 15,.int .i64 3,.int .i64 206,.int .i64 1,.int .i64 4,.int .i64 206,.int .i64 4,.int .i64 5,.int .i64 206,.int .i64 15]
theorem ae7:zR prog "crossbar/feed.codes" =some 1:=by kernel_rfl
theorem ae5:zR prog "crossbar/rtcp.kinds" =some 0:=by kernel_rfl
theorem axM{w:World}(h:KW prog w):∃t fz,w.heap[1]?=some (.cells AZ.toArray t fz):=h.2 _ (.tail _ (.tail _ (.head _))) _ ae7
theorem axL{w:World}(h:KW prog w):∃t fz,w.heap[0]?=some (.cells #[.int .i64 1,.int .i64 1,.int .i64 2,.int .i64 3,.int .i64 4] t fz):=h.2 _ (.tail _ (.head _)) _ ae5
theorem ag4(W:World):(Instr.index 281 (.agg AZ.toArray) (.int .i64 0)).run prog W=.ok (.agg #[.int .i64 1,.int .i64 205,.int .i64 1]) W:=by kernel_rfl
theorem ag3(W:World):(Instr.index 281 (.agg AZ.toArray) (.int .i64 1)).run prog W=.ok (.agg #[.int .i64 2,.int .i64 205,.int .i64 15]) W:=by kernel_rfl
theorem ag2(W:World):(Instr.index 281 (.agg AZ.toArray) (.int .i64 2)).run prog W=.ok (.agg #[.int .i64 3,.int .i64 206,.int .i64 1]) W:=by kernel_rfl
theorem ag1(W:World):(Instr.index 281 (.agg AZ.toArray) (.int .i64 3)).run prog W=.ok (.agg #[.int .i64 4,.int .i64 206,.int .i64 4]) W:=by kernel_rfl
theorem ag0(W:World):(Instr.index 281 (.agg AZ.toArray) (.int .i64 4)).run prog W=.ok (.agg #[.int .i64 5,.int .i64 206,.int .i64 15]) W:=by kernel_rfl
theorem ad2{w:World}(h:KW prog w):∀j u,AZ[j]?=some u->w.cell? ⟨1,j,none⟩=some u:=by
 obtain⟨t,fz,hc⟩:=axM h;intro j u hu;simp only[World.cell?,hc];rw[List.getElem?_toArray];exact hu
def kI:List (Int×Int×Int):=[(1,205,1),(2,205,15),(3,206,1),(4,206,4),(5,206,15)]
def tO(f c:Int)(l:List (Int×Int×Int)):Int:=match l.find? fun x=>x.2.1==f&&x.2.2==c with|some x=>x.1|none=>0
theorem kindG_step(f c:Int)(x:Int×Int×Int)(l:List (Int×Int×Int))(h:(x.2.1==f&&x.2.2==c)=false):tO f c (x::l)=tO f c l:=by
 unfold tO;rw[List.find?_cons,h]
theorem afx(W0:World)(aX:KW prog W0)(f c:Int):
  Calls prog 117 #[.int .i64 f,.int .i64 c] W0 fun e W'=>e=.returned (.int .i64 (tO f c kI))/\Below W0.heap.size W0 W':=by
 have hc:=ad2 aX;have c0:=hc 0 _ rfl;have c1:=hc 1 _ rfl;have c2:=hc 2 _ rfl;have c3:=hc 3 _ rfl;have c4:=hc 4 _ rfl;have c5:=hc 5 _ rfl;have c6:=hc 6 _ rfl;have c7:=hc 7 _ rfl;have c8:=hc 8 _ rfl;have c9:=hc 9 _ rfl;have ca:=hc 10 _ rfl;have cb:=hc 11 _ rfl;have cc:=hc 12 _ rfl;have cd:=hc 13 _ rfl;have ce:=hc 14 _ rfl;clear aX hc;have q0:=ag4;have q1:=ag3;have q2:=ag2;have q3:=ag1;have q4:=ag0;go_enter func117,ntmps117
 go_wp2
 go_loopw [8] (fun p W2=>∃k:Nat,p=.int .i64 (k:Int)/\k<=5/\tO f c kI=tO f c (kI.drop k)/\Below W0.heap.size W0 W2) (fun p _=>5-(intOf p).toNat)
 case atStart=>exact⟨0,rfl,by decide,rfl,eD _ _⟩
 case round=>
  obtain⟨k,rfl,hk,hr,hb⟩:=hrel;clear c0 c1 c2 c3 c4 c5 c6 c7 c8 c9 ca cb cc cd ce;generalize hG:tO f c kI=G at hr;rcases(show k=0\/k=1\/k=2\/k=3\/k=4\/k=5 by omega)with rfl|rfl|rfl|rfl|rfl|rfl;all_goals
   clear hk;simp only[kI,xu,List.drop_succ_cons,List.drop_nil]at hr
  .by_cases hf:f=205
   .subst hf;by_cases hcc:c=1
    .subst hcc;go_wp2
     refine fD (Az rfl _ _ _) rfl ?_;exact⟨by rw[hG,hr];rfl,iL hb hb.size _⟩
    .have n2:((1:Int)==c)=false:=by simp;omega
     clear hcc;rw[kindG_step _ _ _ _ (by simp[n2])]at hr;go_wp2
     go_roundw
     case rel=>exact⟨1,rfl,by decide,hr,iL hb hb.size _⟩
     case measure=>simp[intOf]
   have n1:((205:Int)==f)=false:=by simp;omega
   clear hf;rw[kindG_step _ _ _ _ (by simp[n1])]at hr;go_wp2
   go_roundw
   case rel=>exact⟨1,rfl,by decide,hr,iL hb hb.size _⟩
   case measure=>simp[intOf]
  .by_cases hf:f=205
   .subst hf;by_cases hcc:c=15
    .subst hcc;go_wp2
     refine fD (Az rfl _ _ _) rfl ?_;exact⟨by rw[hG,hr];rfl,iL hb hb.size _⟩
    .have n2:((15:Int)==c)=false:=by simp;omega
     clear hcc;rw[kindG_step _ _ _ _ (by simp[n2])]at hr;go_wp2
     go_roundw
     case rel=>exact⟨2,rfl,by decide,hr,iL hb hb.size _⟩
     case measure=>simp[intOf]
   have n1:((205:Int)==f)=false:=by simp;omega
   clear hf;rw[kindG_step _ _ _ _ (by simp[n1])]at hr;go_wp2
   go_roundw
   case rel=>exact⟨2,rfl,by decide,hr,iL hb hb.size _⟩
   case measure=>simp[intOf]
  .by_cases hf:f=206
   .subst hf;by_cases hcc:c=1
    .subst hcc;go_wp2
     refine fD (Az rfl _ _ _) rfl ?_;exact⟨by rw[hG,hr];rfl,iL hb hb.size _⟩
    .have n2:((1:Int)==c)=false:=by simp;omega
     clear hcc;rw[kindG_step _ _ _ _ (by simp[n2])]at hr;go_wp2
     go_roundw
     case rel=>exact⟨3,rfl,by decide,hr,iL hb hb.size _⟩
     case measure=>simp[intOf]
   have n1:((206:Int)==f)=false:=by simp;omega
   clear hf;rw[kindG_step _ _ _ _ (by simp[n1])]at hr;go_wp2
   go_roundw
   case rel=>exact⟨3,rfl,by decide,hr,iL hb hb.size _⟩
   case measure=>simp[intOf]
  .by_cases hf:f=206
   .subst hf;by_cases hcc:c=4
    .subst hcc;go_wp2
     refine fD (Az rfl _ _ _) rfl ?_;exact⟨by rw[hG,hr];rfl,iL hb hb.size _⟩
    .have n2:((4:Int)==c)=false:=by simp;omega
     clear hcc;rw[kindG_step _ _ _ _ (by simp[n2])]at hr;go_wp2
     go_roundw
     case rel=>exact⟨4,rfl,by decide,hr,iL hb hb.size _⟩
     case measure=>simp[intOf]
   have n1:((206:Int)==f)=false:=by simp;omega
   clear hf;rw[kindG_step _ _ _ _ (by simp[n1])]at hr;go_wp2
   go_roundw
   case rel=>exact⟨4,rfl,by decide,hr,iL hb hb.size _⟩
   case measure=>simp[intOf]
  .by_cases hf:f=206
   .subst hf;by_cases hcc:c=15
    .subst hcc;go_wp2
     refine fD (Az rfl _ _ _) rfl ?_;exact⟨by rw[hG,hr];rfl,iL hb hb.size _⟩
    have n2:((15:Int)==c)=false:=by simp;omega
    clear hcc;rw[kindG_step _ _ _ _ (by simp[n2])]at hr;go_wp2
    go_roundw
    case rel=>exact⟨5,rfl,by decide,hr,iL hb hb.size _⟩
    case measure=>simp[intOf]
   .have n1:((206:Int)==f)=false:=by simp;omega
    clear hf;rw[kindG_step _ _ _ _ (by simp[n1])]at hr;go_wp2
    go_roundw
    case rel=>exact⟨5,rfl,by decide,hr,iL hb hb.size _⟩
    case measure=>simp[intOf]
  go_wp2
  refine fD (Az rfl _ _ _) rfl ?_;exact⟨by rw[hG,hr];rfl,hb⟩
abbrev at6:FuncId:=117
theorem asz(f c:Int):PC prog at6 [(I64,.int f),(I64,.int c)] [(I64,.int (tO f c kI))]:=by
 refine PC.qX (by decide) ⟨⟨_,func117,by kernel_rfl,by kernel_rfl⟩,fun w N vs aX hrd=>?_⟩;obtain⟨_,_,rfl,⟨_,rfl,rfl⟩,_,_,rfl,⟨_,rfl,rfl⟩,rfl⟩:=hrd;refine(afx w aX f c).mono ?_;rintro e w' ⟨rfl,hbe⟩;exact⟨_,rfl,⟨[.int .i64 (tO f c kI)],⟨_,_,rfl,⟨_,rfl,rfl⟩,rfl⟩,rfl⟩,hbe⟩
def qP(k:Int)(l:List (Int×Int×Int)):Int×Int×Int:=match l.find? fun x=>x.1==k with|some x=>(x.2.1,x.2.2,0)|none=>(0,0,1)
theorem codeG_step(k:Int)(x:Int×Int×Int)(l:List (Int×Int×Int))(h:(x.1==k)=false):qP k (x::l)=qP k l:=by
 unfold qP;rw[List.find?_cons,h]
theorem awN(W0:World)(aX:KW prog W0)(n:Int):
  Calls prog 146 #[.int .i64 n] W0 fun e W'=>e=.returned (.tuple #[.int .i64 (qP n kI).1,.int .i64 (qP n kI).2.1,.int .i64 (qP n kI).2.2])/\Below W0.heap.size W0 W':=by
 have hc:=ad2 aX;have c0:=hc 0 _ rfl;have c1:=hc 1 _ rfl;have c2:=hc 2 _ rfl;have c3:=hc 3 _ rfl;have c4:=hc 4 _ rfl;have c5:=hc 5 _ rfl;have c6:=hc 6 _ rfl;have c7:=hc 7 _ rfl;have c8:=hc 8 _ rfl;have c9:=hc 9 _ rfl;have ca:=hc 10 _ rfl;have cb:=hc 11 _ rfl;have cc:=hc 12 _ rfl;have cd:=hc 13 _ rfl;have ce:=hc 14 _ rfl;clear aX hc;have q0:=ag4;have q1:=ag3;have q2:=ag2;have q3:=ag1;have q4:=ag0;go_enter func146,ntmps146
 go_wp2
 go_loopw [8] (fun p W2=>∃k:Nat,p=.int .i64 (k:Int)/\k<=5/\qP n kI=qP n (kI.drop k)/\Below W0.heap.size W0 W2) (fun p _=>5-(intOf p).toNat)
 case atStart=>exact⟨0,rfl,by decide,rfl,eD _ _⟩
 case round=>
  obtain⟨k,rfl,hk,hr,hb⟩:=hrel;clear c0 c1 c2 c3 c4 c5 c6 c7 c8 c9 ca cb cc cd ce;generalize hG:qP n kI=G at hr;rcases(show k=0\/k=1\/k=2\/k=3\/k=4\/k=5 by omega)with rfl|rfl|rfl|rfl|rfl|rfl;all_goals
   clear hk;simp only[kI,xu,List.drop_succ_cons,List.drop_nil]at hr
  .by_cases hf:n=1
   .subst hf;go_wp2
    go_region
    go_wp2
    refine fD (results_tmp3 rfl _ _ _) rfl ?_;exact⟨by rw[hG,hr];rfl,(iL hb hb.size _).drew⟩
   have n1:((1:Int)==n)=false:=by simp;omega
   clear hf;rw[codeG_step _ _ _ n1]at hr;go_wp2
   go_roundw
   case rel=>exact⟨1,rfl,by decide,hr,iL hb hb.size _⟩
   case measure=>simp[intOf]
  .by_cases hf:n=2
   .subst hf;go_wp2
    go_region
    go_wp2
    refine fD (results_tmp3 rfl _ _ _) rfl ?_;exact⟨by rw[hG,hr];rfl,(iL hb hb.size _).drew⟩
   have n1:((2:Int)==n)=false:=by simp;omega
   clear hf;rw[codeG_step _ _ _ n1]at hr;go_wp2
   go_roundw
   case rel=>exact⟨2,rfl,by decide,hr,iL hb hb.size _⟩
   case measure=>simp[intOf]
  .by_cases hf:n=3
   .subst hf;go_wp2
    go_region
    go_wp2
    refine fD (results_tmp3 rfl _ _ _) rfl ?_;exact⟨by rw[hG,hr];rfl,(iL hb hb.size _).drew⟩
   have n1:((3:Int)==n)=false:=by simp;omega
   clear hf;rw[codeG_step _ _ _ n1]at hr;go_wp2
   go_roundw
   case rel=>exact⟨3,rfl,by decide,hr,iL hb hb.size _⟩
   case measure=>simp[intOf]
  .by_cases hf:n=4
   .subst hf;go_wp2
    go_region
    go_wp2
    refine fD (results_tmp3 rfl _ _ _) rfl ?_;exact⟨by rw[hG,hr];rfl,(iL hb hb.size _).drew⟩
   have n1:((4:Int)==n)=false:=by simp;omega
   clear hf;rw[codeG_step _ _ _ n1]at hr;go_wp2
   go_roundw
   case rel=>exact⟨4,rfl,by decide,hr,iL hb hb.size _⟩
   case measure=>simp[intOf]
  .by_cases hf:n=5
   .subst hf;go_wp2
    go_region
    go_wp2
    refine fD (results_tmp3 rfl _ _ _) rfl ?_;exact⟨by rw[hG,hr];rfl,(iL hb hb.size _).drew⟩
   .have n1:((5:Int)==n)=false:=by simp;omega
    clear hf;rw[codeG_step _ _ _ n1]at hr;go_wp2
    go_roundw
    case rel=>exact⟨5,rfl,by decide,hr,iL hb hb.size _⟩
    case measure=>simp[intOf]
  go_wp2
  refine fD (results_tmp3 rfl _ _ _) rfl ?_;exact⟨by rw[hG,hr];rfl,hb⟩
abbrev arO:FuncId:=111
abbrev at7:FuncId:=146
theorem acp(n:Int):PC prog at7 [(I64,.int n)] [(I64,.int (qP n kI).1),(I64,.int (qP n kI).2.1),(I64,.int (qP n kI).2.2)]:=by
 refine PC.qX (by decide) ⟨⟨_,func146,by kernel_rfl,by kernel_rfl⟩,fun w N vs aX hrd=>?_⟩;obtain⟨_,_,rfl,⟨_,rfl,rfl⟩,rfl⟩:=hrd;refine(awN w aX n).mono ?_;rintro e w' ⟨rfl,hbe⟩;exact⟨_,rfl,⟨[.int .i64 (qP n kI).1,.int .i64 (qP n kI).2.1,.int .i64 (qP n kI).2.2],⟨_,_,rfl,⟨_,rfl,rfl⟩,_,_,rfl,⟨_,rfl,rfl⟩,_,_,rfl,⟨_,rfl,rfl⟩,rfl⟩,rfl⟩,hbe⟩
def kindOf(f c:Int):Int:=if 200<=f/\f<205 then([1,1,2,3,4]:List Int).getD (f-200).toNat 0 else if tO f c kI≠0 then 5 else 6
theorem atU(W0:World)(aX:KW prog W0)(f c:Int):
  Calls prog 111 #[.int .i64 f,.int .i64 c] W0 fun e W'=>e=.returned (.int .i64 (kindOf f c))/\Below W0.heap.size W0 W':=by
 obtain⟨t,fz,hk⟩:=axL aX;have c0:W0.cell? ⟨0,0,none⟩=some (.int .i64 1):=by simp[World.cell?,hk]
 have c1:W0.cell? ⟨0,1,none⟩=some (.int .i64 1):=by simp[World.cell?,hk]
 have c2:W0.cell? ⟨0,2,none⟩=some (.int .i64 2):=by simp[World.cell?,hk]
 have c3:W0.cell? ⟨0,3,none⟩=some (.int .i64 3):=by simp[World.cell?,hk]
 have c4:W0.cell? ⟨0,4,none⟩=some (.int .i64 4):=by simp[World.cell?,hk]
 have hkd:=afx W0 aX f c;clear aX hk;go_enter func111,ntmps111
 by_cases hf:200<=f/\f<205
 .rcases (show f=200\/f=201\/f=202\/f=203\/f=204 by omega)with rfl|rfl|rfl|rfl|rfl;all_goals
   clear hf;go_wp2
   refine fD (Az rfl _ _ _) rfl ?_;exact⟨rfl,eD _ _⟩
 have e:kindOf f c=if tO f c kI≠0 then 5 else 6:=by unfold kindOf;rw[zq hf]
 rw[e];clear e;have hf2:¬(200<=f/\f<205):=hf;go_wp2_with (go_at_call 117;refine hkd.mono ?_;rintro e w' ⟨rfl,hbe⟩)
 all_goals
  refine fD (Az rfl _ _ _) rfl ?_;refine⟨?_,hbe⟩;first|rfl|(exfalso;clear hkd hbe hf hf2 c0 c1 c2 c3 c4;simp_all)
end Go.Vc
namespace Go.Vc
open Go Go.Proofs Go.Plain Go.Lib Tryz
theorem ayu:U8Extra prog Tryz.lays260_ren:=⟨by kernel_rfl,by kernel_rfl,by kernel_rfl,by kernel_rfl,by kernel_rfl,by kernel_rfl,by kernel_rfl⟩
theorem avf{W:World}(h:Lib.Utf8Tabs 4 5 W):∀x∈tabs,∀g,zR prog x.1=some g->pG W g 0 x.2:=by
 intro x hx g hg;simp only[tabs,iR,sH,pz]at hx;rcases hx with rfl|rfl
 .obtain rfl:4=g:=yI (ae6.symm.trans hg);intro j u hu;rw[ow]at hu;obtain⟨c,hc,rfl⟩:=Aj.1 hu;obtain⟨hj,rfl⟩:=zy.1 hc;simp only[I8]at hj;simp only[List.getElem_range];rw[kD,h.1 j hj,agO ⟨j,hj⟩]
 obtain rfl:5=g:=yI (aeg.symm.trans hg);intro j u hu;rw[ow]at hu;obtain⟨c,hc,rfl⟩:=Aj.1 hu;have hj:j<32:=(zy.1 hc).1;have ha:=Tk ⟨j/2,by omega⟩;have hh:=h.2 (j/2) (by omega);rw[kD];rcases Nat.mod_two_eq_zero_or_one j with h0|h0
 .have e:2*(j/2)=j:=by omega
  simp only[e]at ha hh;rw[hh.1];have:=ha.1.symm.trans hc;rw[yI this]
 have e:2*(j/2)+1=j:=by omega
 simp only[e]at ha hh;rw[hh.2];have:=ha.2.symm.trans hc;rw[yI this]
theorem auv:(YtaehhpempnelhaaGreatDoor.Rows.laid_unicode_utf8_acceptRanges:DataW Unit)=acceptData:=by kernel_rfl
theorem axp:(YtaehhpempnelhaaGreatDoor.Rows.laid_internal_strconv_uint64pow10:DataW Unit)=tabData .u64 Lib.pow10Tab:=by kernel_rfl
theorem avg:(YtaehhpempnelhaaGreatDoor.Rows.laid_crossbar_rtcp_kinds:DataW Unit)=tabData .i64 [1,1,2,3,4]:=by kernel_rfl
abbrev Ic(a b c:Int):DataW Unit:=.agg [.lit (.int .i64 a),.lit (.int .i64 b),.lit (.int .i64 c)]
abbrev O7:DataW Unit:=.agg [Ic 1 205 1,Ic 2 205 15,Ic 3 206 1,Ic 4 206 4,Ic 5 206 15]
theorem avu:(YtaehhpempnelhaaGreatDoor.Rows.laid_crossbar_feed_codes:DataW Unit)=O7:=by kernel_rfl
theorem aAk:(prog.globals[2]?).map (·.type)=some 359:=by kernel_rfl
theorem axN:(prog.globals[0]?).map (·.type)=some 247:=by kernel_rfl
theorem ax5:(prog.globals[1]?).map (·.type)=some 281:=by kernel_rfl
theorem axO:prog.globalNamed "crossbar/rtcp.kinds" =some 0:=by kernel_rfl
theorem ax6:prog.globalNamed "crossbar/feed.codes" =some 1:=by kernel_rfl
theorem Tw{W:World}{n:String}{g:Nat}{t:TypeId}{d:DataW Unit}(hn:prog.globalNamed n=some g)(ht:(prog.globals[g]?).map (·.type)=some t)(h:VarReads prog W n d):
  ∃(cs:Array Value) (t':TypeId) (fz:Nat×Nat) (fuel:Nat) (p:List MemPlace),W.heap[g]?=some (.cells cs t' fz)/\DataW.trod (fun _=>()) prog W 0 (fun _=>true) false fuel t cs.toList=some (d,p):=by
 obtain⟨g',t1,cs,fuel,p,h1,h2,h3,h4⟩:=h;obtain rfl:g=g':=yI (hn.symm.trans h1);obtain rfl:t=t1:=yI (ht.symm.trans h2);unfold World.var? at h3;rw[h1]at h3;simp only[Option.bind_some]at h3;split at h3
 next cs' t' fz hh=>obtain rfl:=yI h3;exact⟨_,t',fz,fuel,p,hh,h4⟩
 cases h3
theorem cells3:prog.cellsOf 3=1:=by kernel_rfl
theorem ag5:prog.cellsOf 280=3:=by kernel_rfl
theorem ayc:prog.cellsOf 281=15:=by kernel_rfl
theorem Lv{W:World}{fuel:Nat}{cs:List Value}{a b c:Int}{p:List MemPlace}(h:DataW.trod (fun _=>()) prog W 0 (fun _=>true) false fuel 280 cs=some (Ic a b c,p)):
  cs=[.int .i64 a,.int .i64 b,.int .i64 c]:=by
 obtain⟨xs,n,_,hx,hl,hxl,hf⟩:=DataW.trod_struct underlying280 h;have f0:DataW.trod (fun _=>()) prog W 0 (fun _=>true) false n 3 ((cs.drop 0).take (prog.cellsOf 3))=xs[0]?:=hf 0 _ rfl;have f1:DataW.trod (fun _=>()) prog W 0 (fun _=>true) false n 3 ((cs.drop 1).take (prog.cellsOf 3))=xs[1]?:=hf 1 _ rfl;have f2:DataW.trod (fun _=>()) prog W 0 (fun _=>true) false n 3 ((cs.drop 2).take (prog.cellsOf 3))=xs[2]?:=hf 2 _ rfl;rw[cells3]at f0 f1 f2;rw[ag5]at hl;simp only[iG,DataW.agg.injEq]at hx;match xs,hx.1 with
 | [x0,x1,x2],hm=>
  simp only[jG,pU,kE,lC]at hm;obtain⟨m0,m1,m2⟩:=hm;obtain⟨_,e0,q0,_⟩:=DataW.trod_int underlying3 (show _=some x0 from f0);obtain⟨_,e1,q1,_⟩:=DataW.trod_int underlying3 (show _=some x1 from f1);obtain⟨_,e2,q2,_⟩:=DataW.trod_int underlying3 (show _=some x2 from f2);rw[q0]at m0;rw[q1]at m1;rw[q2]at m2;simp only[DataW.lit.injEq,Lit.int.injEq,true_and]at m0 m1 m2;subst m0 m1 m2;match cs,hl with
  | [c0,c1,c2],_=>
   simp at e0 e1 e2;rw[e0,e1,e2]
theorem aun{W:World}{fuel:Nat}{cs:List Value}{p:List MemPlace}(h:DataW.trod (fun _=>()) prog W 0 (fun _=>true) false fuel 281 cs=some (O7,p)):cs=AZ:=by
 obtain⟨xs,n,_,hx,hl,hxl,hf⟩:=DataW.trod_array underlying281 h;have f0:=hf 0 (by decide);have f1:=hf 1 (by decide);have f2:=hf 2 (by decide);have f3:=hf 3 (by decide);have f4:=hf 4 (by decide);simp only[ag5]at f0 f1 f2 f3 f4;rw[ayc]at hl;simp only[iG,DataW.agg.injEq]at hx;match xs,hx.1 with
 | [x0,x1,x2,x3,x4],hm=>
  simp only[jG,pU,kE,lC]at hm;obtain⟨m0,m1,m2,m3,m4⟩:=hm;obtain⟨d0,p0⟩:=x0;obtain⟨d1,p1⟩:=x1;obtain⟨d2,p2⟩:=x2;obtain⟨d3,p3⟩:=x3;obtain⟨d4,p4⟩:=x4;simp only at m0 m1 m2 m3 m4;subst m0 m1 m2 m3 m4;have e0:=Lv f0;have e1:=Lv f1;have e2:=Lv f2;have e3:=Lv f3;have e4:=Lv f4;have key:cs=(cs.drop (0*3)).take 3++((cs.drop (1*3)).take 3++((cs.drop (2*3)).take 3++((cs.drop (3*3)).take 3++(cs.drop (4*3)).take 3))):=by
   have s:∀k,cs.drop k=(cs.drop k).take 3++cs.drop (k+3):=fun k=>by
    conv=>lhs;rw[<-D5 3 (cs.drop k)]
    rw[xq]
   have z:cs.drop 15=[]:=FZ (by omega);conv=>lhs;rw[show cs=cs.drop 0 from rfl,s 0,s 3,s 6,s 9,s 12,z]
   simp
  rw[key,e0,e1,e2,e3,e4];rfl
theorem aAu{W:World}(h1:VarReads prog W "internal/strconv.uint64pow10" (tabData .u64 Lib.pow10Tab))(h2:VarReads prog W "crossbar/rtcp.kinds" (tabData .i64 [1,1,2,3,4]))(h3:VarReads prog W "crossbar/feed.codes" O7):KWp prog W:=by
 intro x hx g hg;simp only[UW,iR,sH,pz]at hx;rcases hx with rfl|rfl|rfl
 .obtain rfl:2=g:=yI (ahl.symm.trans hg);obtain⟨cs,t',fz,fuel,p,hh,h4⟩:=Tw agd aAk h1;have hc:=cells_of_tab (P:=prog) underlying359 underlying68 (by kernel_rfl) (by kernel_rfl) h4;refine⟨t',fz,?_⟩;rw[hh,pow_eq,<-hc]
 .obtain rfl:0=g:=yI (ae5.symm.trans hg);obtain⟨cs,t',fz,fuel,p,hh,h4⟩:=Tw axO axN h2;have hc:=cells_of_tab (P:=prog) underlying247 underlying3 (by kernel_rfl) (by kernel_rfl) h4;refine⟨t',fz,?_⟩;rw[hh,<-hc]
 obtain rfl:1=g:=yI (ae7.symm.trans hg);obtain⟨cs,t',fz,fuel,p,hh,h4⟩:=Tw ax6 ax5 h3;have hc:=aun h4;refine⟨t',fz,?_⟩;rw[hh,show([1,205,1,2,205,15,3,206,1,4,206,4,5,206,15].map fun n=>Value.int .i64 n)=AZ from rfl,<-hc]
theorem kw_row{W:World}(h:laidMet prog YtaehhpempnelhaaGreatDoor.Rows.topOrderRow.laid W):KW prog W:=by
 have h1:=Lib.laidMet.reads h (n:= "unicode/utf8.first") (d:=firstData) (by rw[<-Pinned.utf8First_eq];exact .tail _ (.tail _ (.tail _ (.tail _ (.tail _ (.tail _ (.head _)))))));have h2:=Lib.laidMet.reads h (n:= "unicode/utf8.acceptRanges") (d:=acceptData) (by rw[<-auv];exact .tail _ (.tail _ (.tail _ (.head _))));have h3:=Lib.laidMet.reads h (n:= "internal/strconv.uint64pow10") (d:=tabData .u64 Lib.pow10Tab) (by rw[<-axp];exact .tail _ (.tail _ (.head _)));have h4:=Lib.laidMet.reads h (n:= "crossbar/feed.codes") (d:=O7) (by rw[<-avu];exact .tail _ (.tail _ (.tail _ (.tail _ (.head _)))));have h5:=Lib.laidMet.reads h (n:= "crossbar/rtcp.kinds") (d:=tabData .i64 [1,1,2,3,4]) (by rw[<-avg];exact .tail _ (.tail _ (.tail _ (.tail _ (.tail _ (.head _))))));exact⟨avf (utf8Tabs_of_reads (ρ:=Tryz.lays260_ren) Tryz.lays260 ayu h1 h2),aAu h3 h5 h4⟩
end Go.Vc
namespace Go.Vc
open Go Go.Proofs Go.Plain Tryz
def Ib(size at_ n:Int):Int:=if at_>size\/n>size-at_ then 2 else 0
theorem aq2(size at_ n:Int)(h1:0<=size)(h2:size<=9223372036854775807)(h3:0<=at_):
  PC prog acV [(I64,.int size),(I64,.int at_),(I64,.int n)] [(I64,.int (Ib size at_ n))]:=by
 apply apo rfl;simp only[aa4,aJ];refine⟨fun _=>by omega,fun _=>?_,fun _=>?_⟩
 .rw[Ib,aC (by omega)]
 rw[Ib,zq (by omega)]
theorem byte_of(v:Nat):C.int (IntKind.u8.wrap (v:Int))=.int (UInt8.ofNat v).toNat:=by
 simp only[qK,zu];congr 1
theorem ayV(n j:Nat)(hj:j<n)(x:UInt8)(l:List UInt8):(List.replicate (n-j) 0++l).set (n-1-j) x=List.replicate (n-(j+1)) 0++x::l:=by
 have h:n-j=(n-1-j)+1:=by omega
 have h':n-(j+1)=n-1-j:=by omega
 rw[h,h',List.replicate_succ',gJ];generalize n-1-j=m;rw[List.set_append_right _ _ (by simp)];simp
theorem Y1(v n:Nat)(_:v<18446744073709551616)(h2:n<=8):
  PC prog ZI [(U64,.int v),(I64,.int n)] [(aV,B (fq n v))]:=by
 apply amU rfl;simp only[YT,aJ,aG];refine⟨by omega,by omega,by omega,by omega,?_⟩;refine VC.jw (fun j:Nat=> [.int ((v/256^j:Nat):Int),.int ((n:Int)-1-j),B (List.replicate (n-j) 0++fq j v)]) (fun j=>j<=n) (fun j=>n-j) 0 ?_ (cu _) fun j hj=>?_
 .simp only[kM];simp[fq,RJ]
 simp only[aJ,aG];refine⟨fun hc=>⟨by omega,by omega,by omega,j+1,?_,by omega,by omega⟩,fun hc=>?_⟩
 .have e1:((n:Int)-1-j).toNat=n-1-j:=by omega
  have e2:arith .shr .u64 ((v/256^j:Nat):Int) 8=((v/256^(j+1):Nat):Int):=by
   rw[vG,Nat.pow_succ,<-Nat.div_div_eq_div_mul];simp[IntKind.bits]
  rw[e1,e2,byte_of,JK,ayV n j (by omega),<-ae4];congr 2
  simp;omega
 have:j=n:=by omega
 subst this;simp
def qx(len at_ n:Int):Int:=if n<1\/8<n\/at_<0 then 1 else Ib len at_ n
def cut(b:List UInt8)(at_ n:Int):List UInt8:=(b.drop at_.toNat).take n.toNat
def mX(b:List UInt8)(at_ n:Int):Nat:=if qx b.length at_ n=0 then be (cut b at_ n)else 0
theorem zi{len at_ n:Int}:qx len at_ n=0↔1<=n/\n<=8/\0<=at_/\at_<=len/\n<=len-at_:=by
 unfold qx Ib;split
 .simp;omega
 split<;>simp<;>omega
theorem Sk{b:List UInt8}{at_ n:Int}(h:at_<=b.length/\n<=b.length-at_)(h0:0<=at_):(cut b at_ n).length=n.toNat:=by
 simp only[cut,jV,lW];omega
theorem ayD(b:List UInt8)(at_ n:Int)(h:0<=at_)(hn:0<=n):((ofBytes b).take (at_+n).toNat).drop at_.toNat=ofBytes (cut b at_ n):=by
 have e:(at_+n).toNat=at_.toNat+n.toNat:=by omega
 rw[wE,xL,e,take_drop];rfl
theorem ahK(b:List UInt8)(at_ n:Int):mX b at_ n<18446744073709551616:=by
 unfold mX;split
 next h=>rw[zi]at h;exact aAN (by rw[Sk ⟨h.2.2.2.1,h.2.2.2.2⟩ h.2.2.1];omega)
 decide
theorem sP(b:List UInt8)(at_ n:Int)(h1:b.length<=9223372036854775807):
  PC prog adT [(aV,B b),(I64,.int at_),(I64,.int n)] [(U64,.int (mX b at_ n)),(I64,.int (qx b.length at_ n))]:=by
 apply aqR rfl;simp only[ab9,aJ,aG];refine⟨fun hc=>?_,fun hc=>⟨_,aq2 _ _ _ ?_ ?_ ?_,fun he=>?_,fun he=>?_⟩⟩
 .have e:qx b.length at_ n=1:=by rw[qx,aC (by omega)]
  simp[mX,e]
 .omega
 .simp;omega
 .omega
 .have e:qx b.length at_ n=Ib b.length at_ n:=by rw[qx,zq (by omega)]
  simp only[C.toInt_int,bD]at he |-;rw[mX,e,zq he];rfl
 have e:qx b.length at_ n=0:=by rw[qx,zq (by omega)];simpa using he
 have hz:=zi.1 e;have hl:=Sk ⟨hz.2.2.2.1,hz.2.2.2.2⟩ hz.2.2.1;rw[bD];refine⟨by omega,by omega,by omega,by omega,?_⟩;refine VC.jw (fun i:Nat=> [.int ((be ((cut b at_ n).take i):Nat):Int),.int i]) (fun i=>i<=n.toNat) (fun i=>n.toNat-i) 0 ?_ (cu _) fun i hi=>?_
 .rfl
 simp only[aJ,aG];rw[ayD b at_ n hz.2.2.1 (by omega)];simp only[bD,hl];refine⟨fun hc=>⟨by omega,by omega,by omega,i+1,?_,by omega,by omega⟩,fun hc=>?_⟩
 .have hx:=arM (cut b at_ n) i;have hv:=aeW (cut b at_ n) i;have hp:256^i<=256^7:=I9 (by decide) (by omega);have hp':(256:Nat)^7=72057594037927936:=by decide
  have e1:arith .shl .u64 ((be ((cut b at_ n).take i):Nat):Int) 8=((be ((cut b at_ n).take i)*2^8:Nat):Int):=by
   rw[wG,nP];simp[IntKind.bits];omega
  simp only[dF,mR,C.toInt_int,e1,nP];have e2:(((cut b at_ n).getD i 0).toNat:Int)%18446744073709551616=((((cut b at_ n).getD i 0).toNat:Nat):Int):=by omega
  rw[e2,CS rfl (by show _<2^64;omega) (by show _<2^64;omega),Bv _ _ _ (by omega),as0 _ _ (by omega)];simp
 rw[mO (by omega)];simp only[mX,e,eO]
theorem ay2(v:Nat)(h:v<18446744073709551616){k:Nat}(hk:k=8):v<256^k:=by subst hk;simpa using h
def uQ(v:Nat)(n:Int):Int:=if n<1\/8<n then 1 else if v<256^n.toNat then 0 else 6
def gH(v:Nat)(n:Int):List UInt8:=if uQ v n=0 then fq n.toNat v else []
theorem J6{v:Nat}{n:Int}:uQ v n=0↔1<=n/\n<=8/\v<256^n.toNat:=by
 unfold uQ;split
 .simp;omega
 split
 .simp[*];omega
 simp[*]
theorem vC(v:Nat)(n:Int)(h1:v<18446744073709551616):
  PC prog adS [(U64,.int v),(I64,.int n)] [(aV,B (gH v n)),(I64,.int (uQ v n))]:=by
 apply aqQ rfl;simp only[ab8,aJ,aG];refine⟨fun hc=>?_,fun hc=>⟨fun h=>by omega,fun h=>by rw[nP];omega,fun hc'=>?_,fun hc'=>?_⟩⟩
 .have e:uQ v n=1:=by rw[uQ,aC (by omega)]
  simp[gH,e]
 .have e:uQ v n=6:=by
   rw[uQ,zq (by omega),zq];have h3:=hc'.2;intro h;apply h3;rw[vG,nP];obtain⟨m,rfl⟩:∃m:Nat,n=m:=⟨n.toNat,by omega⟩;have e1:((8:Int)*m%18446744073709551616).toNat=8*m:=by omega
   rw[e1,u6 (by simp[IntKind.bits];omega)];simp only[dF]at h;have:(256:Nat)^m=2^(8*m):=by rw[Nat.pow_mul]
   rw[this]at h;exact Int.ediv_eq_zero_of_lt (by omega) (by exact_mod_cast h)
  simp[gH,e]
 have e:uQ v n=0:=by
  rw[J6];refine⟨by omega,by omega,?_⟩;rcases hc' with h|h
  .exact ay2 v h1 (by omega)
  .rw[vG,nP]at h;obtain⟨m,rfl⟩:∃m:Nat,n=m:=⟨n.toNat,by omega⟩;have e1:((8:Int)*m%18446744073709551616).toNat=8*m:=by omega
   rw[e1,u6 (by simp[IntKind.bits];omega)]at h;simp only[dF];have:(256:Nat)^m=2^(8*m):=by rw[Nat.pow_mul]
   rw[this];apply Nat.lt_of_not_le;intro hle;have h5:v/2^(8*m)=0:=by exact_mod_cast h
   have h6:0<v/2^(8*m):=Nat.div_pos hle (Nat.pow_pos (by decide));omega
 obtain⟨m,rfl⟩:∃m:Nat,n=m:=⟨n.toNat,by omega⟩;refine⟨_,Y1 v m h1 (by omega),?_⟩;simp[gH,e]
theorem eight(n:Int)(h:1<=n/\n<=8):n=1\/n=2\/n=3\/n=4\/n=5\/n=6\/n=7\/n=8:=by omega
def DJ(b:List UInt8)(at_ n:Int):Int:=if qx b.length at_ n=0 then Qn n.toNat (mX b at_ n)else 0
theorem agM{b:List UInt8}{at_ n:Int}(e:qx b.length at_ n=0):mX b at_ n<256^n.toNat:=by
 have h:=zi.1 e;rw[mX,aC e];have:=VX (cut b at_ n);rwa[Sk ⟨h.2.2.2.1,h.2.2.2.2⟩ h.2.2.1]at this
theorem avY(v:Nat)(n:Int)(hn:1<=n/\n<=8)(hv:v<256^n.toNat):
  arith .shr .i64 (IntKind.i64.wrap (arith .shl .u64 (v:Int) (IntKind.u64.wrap (64-8*n)))) (IntKind.u64.wrap (64-8*n))=Qn n.toNat v:=by
 rw[vG,wG,Kq];simp only[nP];unfold Qn;rcases eight n hn with rfl|rfl|rfl|rfl|rfl|rfl|rfl|rfl<;>simp[IntKind.bits]at hv |- <;>split<;>omega
def xE(s:Int)(n:Int):Int:=if n<1\/8<n then 1 else if-(2:Int)^(8*n.toNat-1)<=s/\s<2^(8*n.toNat-1)then 0 else 6
def yQ(s:Int)(n:Int):List UInt8:=if xE s n=0 then fq n.toNat (s%18446744073709551616).toNat else []
theorem TF{s n:Int}:xE s n=0↔1<=n/\n<=8/\-(2:Int)^(8*n.toNat-1)<=s/\s<2^(8*n.toNat-1):=by
 unfold xE;split
 .simp;omega
 split
 .simp[*];omega
 next h1 h2=>simp only[Int.reduceEq,false_iff];intro h;exact h2 ⟨h.2.2.1,h.2.2.2⟩
theorem aek(s:Int)(n:Int)(hn:1<=n/\n<=8)(hs: -9223372036854775808<=s/\s<=9223372036854775807):
  arith .shr .i64 (arith .shl .i64 s (IntKind.u64.wrap (64-8*n))) (IntKind.u64.wrap (64-8*n))=s↔-(2:Int)^(8*n.toNat-1)<=s/\s<2^(8*n.toNat-1):=by
 rw[vG,wG,Kq];simp only[nP];rcases eight n hn with rfl|rfl|rfl|rfl|rfl|rfl|rfl|rfl<;>simp[IntKind.bits]<;>omega
def put(b:List UInt8)(k:Nat)(x:List UInt8):List UInt8:=b.take k++(x++b.drop (k+x.length))
abbrev Bs(l:List (List UInt8)):C:=.ls (l.map B)
theorem aiB(l:List (List UInt8))(i:Nat)(h:i<l.length):(l.map B).getD i default=B (l.getD i []):=by
 simp[List.getD,h]
theorem afG(l:List (List UInt8))(i:Nat)(h:i<l.length):(l.take (i+1)).flatten=(l.take i).flatten++l.getD i []:=by
 rw[nM h,List.flatten_append];simp[List.getD,h]
theorem join_le(l:List (List UInt8))(i:Nat):(l.take i).flatten.length<=l.flatten.length:=by
 have h:=pX (fun x:List (List UInt8)=>x.flatten.length) (D5 i l);simp only[List.flatten_append,cO]at h;omega
theorem uo(l:List (List UInt8))(h1:l.length<=140737488355328)(h2:l.flatten.length<=140737488355328):
  PC prog acW [(.sl aV,Bs l)] [(aV,B l.flatten)]:=by
 apply apq rfl;simp only[aa5,aJ];refine VC.jw (fun i:Nat=> [.int (((l.take i).flatten.length:Nat):Int),.int i]) (fun i=>i<=l.length) (fun i=>l.length-i) 0 rfl (cu _) fun i hi=>?_;simp only[aJ,aG,bJ];have hle:=join_le l i;refine⟨fun hc=>?_,fun hc=>⟨by omega,by omega,?_⟩⟩
 .have hle':=join_le l (i+1);have e:=afG l i (by omega);have e':=pX List.length e;rw[cO]at e';simp only[dF,aiB l i (by omega),gU,bD];refine⟨by omega,by omega,by omega,by omega,i+1,?_,by omega,by omega⟩;rw[e'];simp
 refine VC.jw (fun i:Nat=> [B (l.take i).flatten,.int i]) (fun i=>i<=l.length) (fun i=>l.length-i) 0 rfl (cu _) fun j hj=>?_;simp only[aJ,aG,bJ];refine⟨fun hc=>?_,fun hc=>?_⟩
 .have hle':=join_le l (j+1);have e:=afG l j (by omega);have e':=pX List.length e;rw[cO]at e';simp only[dF,aiB l j (by omega),gU,bD];refine⟨by omega,by omega,by omega,by omega,j+1,?_,by omega,by omega⟩;rw[e,AQ];simp
 rw[mO (by omega)]
theorem QM(b:List UInt8)(at_ n:Int)(h1:b.length<=9223372036854775807):
  PC prog aaz [(aV,B b),(I64,.int at_),(I64,.int n)] [(I64,.int (DJ b at_ n)),(I64,.int (qx b.length at_ n))]:=by
 apply ano rfl;simp only[Zl,aJ,aG];refine⟨_,_,sP b at_ n h1,fun he=>?_,fun he=>?_⟩
 .simp only[C.toInt_int]at he;rw[DJ,zq he]
 simp only[C.toInt_int]at he |-;have hz:=zi.1 he;refine⟨by omega,by omega,by rw[nP];omega,by rw[nP];omega,?_⟩;rw[avY _ _ ⟨hz.1,hz.2.1⟩ (agM he),DJ,aC he,he]
theorem QC(s n:Int)(hs: -9223372036854775808<=s/\s<=9223372036854775807):
  PC prog YH [(I64,.int s),(I64,.int n)] [(aV,B (yQ s n)),(I64,.int (xE s n))]:=by
 apply amq rfl;simp only[Yp,aJ,aG];refine⟨fun hc=>?_,fun hc=>⟨by omega,by omega,by rw[nP];omega,by rw[nP];omega,fun hc'=>?_,fun hc'=>?_⟩⟩
 .have e:xE s n=1:=by rw[xE,aC (by omega)]
  simp[yQ,e]
 .have e:xE s n=6:=by
   rw[xE,zq (by omega),zq];rwa[<-aek s n (by omega) hs]
  simp[yQ,e]
 have e:xE s n=0:=by
  rw[TF];exact⟨by omega,by omega,(aek s n (by omega) hs).1 hc'⟩
 obtain⟨m,rfl⟩:∃m:Nat,n=m:=⟨n.toNat,by omega⟩;have e1:IntKind.u64.wrap s=(((s%18446744073709551616).toNat:Nat):Int):=by rw[nP];omega
 rw[e1];refine⟨_,Y1 _ m (by omega) (by omega),?_⟩;simp only[yQ,e,eO,dF]
theorem Un{v:Nat}{n:Int}(h:uQ v n=0):gH v n=fq n.toNat v/\(gH v n).length=n.toNat:=by
 rw[gH,aC h];exact⟨rfl,y9 _ _⟩
theorem aiS{v:Int}{n:Int}(h:xE v n=0):yQ v n=fq n.toNat (v%18446744073709551616).toNat/\(yQ v n).length=n.toNat:=by
 rw[yQ,aC h];exact⟨rfl,y9 _ _⟩
theorem tot{f:FuncId}{dZ:List Sh}{vc:VC}{Post:List (Sh×C)->Prop}{cs:List C}(hv:Vp prog f dZ vc)(hd:vc.uh []=true)(hl:cs.length=dZ.length)(h:vc.holds prog Post [] cs):
  ∃rs,Post rs/\PC prog f (dZ.zip cs) rs:=by
 have e1:(dZ.zip cs).map (·.1)=dZ:=by rw[List.map_fst_zip (by omega)]
 have e2:(dZ.zip cs).map (·.2)=cs:=by rw[List.map_snd_zip (by omega)]
 obtain⟨rs,h1,h2⟩:=VC.tells hd h;exact⟨rs,h1,hv e1 (by rw[e2];exact h2)⟩
def Tm:Sh->C->Prop
 | .int k,c=>∃n,c=.int n/\k.min<=n/\n<=k.max
 | .bool,c=>∃b,c=.bool b
 | .str,c=>∃s,c=.str s/\s.length<=70000
 | .sl e,c=>∃l,c=.ls l/\l.length<=70000/\∀x∈l,Tm e x
 | .je,c=>c=.ls []
 | .jc a b,c=>∃x l,c=.ls (x::l)/\Tm a x/\Tm b (.ls l)
 |_,_=>False
theorem fQ{a b:Sh}{l:List C}(h:Tm (.jc a b) (.ls l)):∃x r,l=x::r/\Tm a x/\Tm b (.ls r):=by
 obtain⟨x,r,e,h1,h2⟩:=h;injection e with e;exact⟨x,r,e,h1,h2⟩
theorem sZ{l:List C}(h:Tm .je (.ls l)):l=[]:=by
 injection h
theorem om{k:IntKind}(hs:k.signed=false){c:C}(h:Tm (.int k) c):∃n:Nat,c=.int n/\n<2^k.bits:=by
 obtain⟨n,rfl,h1,h2⟩:=h;refine⟨n.toNat,?_,?_⟩
 .cases k<;>simp[IntKind.signed]at hs<;>simp[IntKind.min,IntKind.signed]at h1<;>congr 1<;>omega
 cases k<;>simp[IntKind.signed]at hs<;>simp[IntKind.min,IntKind.max,IntKind.signed,IntKind.bits]at h1 h2 |- <;>omega
theorem EI(k:IntKind)(n:Int):Tm (.int k) (.int (k.wrap n)):=by
 refine⟨_,rfl,?_⟩;cases k<;>simp[IntKind.wrap,IntKind.min,IntKind.max,IntKind.signed,IntKind.bits]<;>(try split)<;>omega
theorem nZ{n:Int}(h: -9223372036854775808<=n/\n<=9223372036854775807):Tm I64 (.int n):=⟨_,rfl,h⟩
theorem iN(s:Sh):Tm (.sl s) (.ls []):=⟨[],rfl,by simp,by simp⟩
theorem akD{b:List UInt8}(h:b.length<=70000):Tm aV (B b):=by
 refine⟨_,rfl,by simpa using h,fun x hx=>?_⟩;obtain⟨u,_,rfl⟩:=gP.1 hx;have:=u.toNat_lt;exact⟨_,rfl,by simp[IntKind.min,IntKind.signed],by simp[IntKind.max,IntKind.signed,IntKind.bits];omega⟩
theorem Vn{c:C}(h:Tm aV c):∃b:List UInt8,c=B b/\b.length<=70000:=by
 obtain⟨l,rfl,hl,ha⟩:=h;refine⟨bytesOf l,?_,by simpa[bytesOf]using hl⟩;congr 1
 simp only[ofBytes,bytesOf,vW];conv=>lhs;rw[<-List.map_id l]
 apply Ca;intro c hc;obtain⟨n,rfl,h1,h2⟩:=ha c hc;simp[IntKind.min,IntKind.max,IntKind.signed,IntKind.bits]at h1 h2;simp;omega
theorem Fv{s:Sh}{l:List C}(h:Tm (.sl s) (.ls l)){i:Nat}(hi:i<l.length):Tm s (l.getD i default):=by
 obtain⟨l',e,_,ha⟩:=h;injection e with e;subst e;have:l.getD i default=l[i]:=by simp[List.getD,hi]
 rw[this];exact ha _ (Ce hi)
theorem Bt{s:Sh}{l:List C}(h:Tm (.sl s) (.ls l)):l.length<=70000:=by
 obtain⟨l',e,hl,_⟩:=h;injection e with e;subst e;exact hl
theorem Ku{s:Sh}{l:List C}{x:C}(h:Tm (.sl s) (.ls l))(hx:Tm s x)(hl:l.length+1<=70000):Tm (.sl s) (.ls (l++ [x])):=by
 obtain⟨l',e,_,ha⟩:=h;injection e with e;subst e;refine⟨_,rfl,by simpa using hl,fun y hy=>?_⟩;rcases zx.1 hy with hy|hy
 .exact ha y hy
 rw[sF]at hy;exact hy▸hx
end Go.Vc
namespace Go.Vc
open Go Go.Proofs Go.RowKit Go.Shelf Tryz
def Dm(w:World)(v:Value)(l:List Int):Prop:=
 ∃a cap,v=.slice a l.length cap/\l.length<=cap/\cap<=maxLen/\(l≠[]->∃b off,a=some ⟨b,off,none⟩/\b<w.heap.size/\∀i x,l[i]?=some x->w.cell? ⟨b,off+i,none⟩=some (.int .i64 x))
theorem Dm.of{w:World}{N:Nat->Prop}{v:Value}{l:List Int}(h:bV w N (.sl (.int .i64)) v (Ints l)):Dm w v l:=by
 obtain⟨vs,⟨a,cap,rfl,h2,h3,h4⟩,rfl⟩:=h;refine⟨a,cap,by simp[Sh.mk,Sh.isAgg],by simpa using h2,h3,fun hne=>?_⟩;obtain⟨b,off,rfl,_,hlt,hr⟩:=h4 (by simpa using hne);refine⟨b,off,rfl,hlt,fun i e he=>?_⟩;obtain⟨us,h5,h6,h7⟩:=hr i (.int e) (by simp[he]);simp only[Rd]at h7;subst h7;have:=h6 0 _ rfl;simpa[Sh.size]using this
def BU(l:List Int)(most:Nat)(h:Int->Bool):Nat:=((l.take most).takeWhile h).length
theorem air(l:List Int)(most:Nat)(h:Int->Bool)(k:Nat)(h1:∀j,j<k->j<most/\∃x,l[j]?=some x/\h x=true)(h2:¬(k<l.length/\k<most/\∀x,l[k]?=some x->h x=true)):BU l most h=k:=by
 unfold BU;induction k generalizing l most with
 |zero=>
  cases l with
  |nil=>simp
  |cons x l=>
   cases most with
   |zero=>simp
   |succ m=>
    have:h x=false:=by
     cases hx:h x with
     |false=>rfl
     |true=>exact absurd ⟨by simp,by omega,fun y hy=>by simp at hy;rw[<-hy];exact hx⟩ h2
    simp[this]
 |succ k ih=>
  obtain⟨q1,x,q2,q3⟩:=h1 0 (by omega);cases l with
  |nil=>simp at q2
  |cons y l=>
   simp at q2;subst q2;cases most with
   |zero=>omega
   |succ m=>
    rw[Cb,List.takeWhile_cons_of_pos q3,bR];rw[ih l m (fun j hj=>by
     obtain⟨r1,r2⟩:=h1 (j+1) (by omega);exact⟨by omega,by simpa using r2⟩) (fun hc=>h2 ⟨by simp;omega,by omega,by simpa using hc.2.2⟩)]
theorem adg(w:World)(sv:Value)(l:List Int)(hsv:Dm w sv l)(most:Nat)(hm:most<=10000)(f:FuncId)(caps:Array Value)(eg:∀args W,(callFunc f args).run prog W=.ok (.enter f args) W)(holds:Int->Bool)
  (hcall:∀x,Calls prog f (#[.int .i64 x]++caps) w fun e W'=>e=.returned (.bool (holds x))/\W'=w):
  Calls prog 285 #[sv,.int .i64 (most:Int),.func (.func f) #[] caps] w fun e W'=>e=.returned (.int .i64 (BU l most holds:Nat))/\W'=w:=by
 obtain⟨a,cap,rfl,_,_,h1⟩:=hsv;refine(jN (n:=3)).1 ?_;refine sI func285 rfl trivial ?_ rfl;simp only[ntmps285,ni,bR,eB,Nat.reduceAdd,Nat.reduceSub,qD,qC,qF,qB,iw,kS];gi_wp2
 gi_loopw [7] (fun p wr=>∃k:Nat,p=.int .i64 (k:Int)/\wr=w/\k<=most/\∀j,j<k->j<most/\∃x,l[j]?=some x/\holds x=true)
  (fun p _=>most-(intOf p).toNat)
 case atStart=>
  exact⟨0,rfl,rfl,cu _,fun j hj=>by omega⟩
 case round=>
  obtain⟨k,rfl,rfl,hk,hj⟩:=hrel;by_cases hkl:k<l.length/\k<most
  .obtain ⟨b,off,rfl,hblt,hc⟩:=h1 (by intro h;rw[h]at hkl;simp at hkl);obtain⟨x,hx⟩:∃x,l[k]?=some x:=⟨_,nL hkl.1⟩;have d1:=hc k x hx;have i1:(k:Int)<l.length:=by omega
   have i2:(k:Int)<most:=by omega
   gi_wp2
   refine⟨trivial,(jN.2 (hcall _)).mono ?_⟩;rintro e w' ⟨rfl,rfl⟩;have hx2:l[k]'hkl.1=x:=by rw[nL hkl.1]at hx;injection hx
   cases hh:holds x with
   |true=>
    rw[hx2,hh];gi_wp2
    go_roundw
    case rel=>
     refine⟨k+1,by simp,trivial,by omega,fun j hj2=>?_⟩;by_cases hjk:j=k
     .subst hjk;exact⟨by omega,x,hx,hh⟩
     exact hj j (by omega)
    case measure=>simp[intOf];omega
   |false=>
    rw[hx2,hh];gi_wp2
    go_ret
    refine⟨?_,rfl⟩;rw[air l most holds k hj (fun hc=>by have:=hc.2.2 x hx;rw[hh]at this;cases this)];rfl
  have hb:BU l most holds=k:=air l most holds k hj (fun hc=>hkl ⟨hc.1,hc.2.1⟩);by_cases h0:k<l.length
  .have i1:(k:Int)<l.length:=by omega
   have i2:¬(k:Int)<most:=by omega
   gi_wp2
   refine⟨fun _ h=>(by cases h),?_⟩;gi_wp2
   go_ret
   refine⟨?_,rfl⟩;rw[hb];rfl
  have i1:¬(k:Int)<l.length:=by omega
  gi_wp2
  refine⟨fun _ h=>(by cases h),?_⟩;gi_wp2
  go_ret
  refine⟨?_,rfl⟩;rw[hb];rfl
theorem ayb(w:World)(b:Nat)(sv:Value)(l:List Int)(hsv:Dm w sv l)(hb:Boxed w b 27 sv)(y:Int)(hy:l[0]?=some y)(x:Int):
  Calls prog 286 (#[.int .i64 x]++ #[.pointer (some ⟨b,0,none⟩)]) w fun e W'=>e=.returned (.bool (x==y))/\W'=w:=by
 obtain⟨a,cap,rfl,_,_,h1⟩:=hsv;obtain⟨b2,off,rfl,hblt,hc⟩:=h1 (by intro h;rw[h]at hy;simp at hy);have d1:=hc 0 y hy;simp only[qE]at d1;have hcell:=hb.cell;have hlen:0<l.length:=by cases l;simp at hy;simp
 have i1:(0:Int)<l.length:=by omega
 refine(jN (n:=3)).1 ?_;refine sI func286 rfl trivial ?_ rfl;simp only[ntmps286,ni,bR,eB,Nat.reduceAdd,Nat.reduceSub,qD,qC,qF,qB,iw,kS];gi_wp2
 go_ret
 exact⟨rfl,rfl⟩
theorem aya(w:World)(x:Int):Calls prog 287 (#[.int .i64 x]++ #[]) w fun e W'=>e=.returned (.bool (x !=2))/\W'=w:=by
 refine(jN (n:=3)).1 ?_;refine sI func287 rfl trivial ?_ rfl;simp only[ntmps287,ni,bR,eB,Nat.reduceAdd,Nat.reduceSub,qD,qC,qF,qB,iw,kS];gi_wp2
 go_ret
 exact⟨rfl,rfl⟩
end Go.Vc
