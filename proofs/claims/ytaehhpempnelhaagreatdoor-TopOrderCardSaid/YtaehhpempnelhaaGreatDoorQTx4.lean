/-
  Contracts of functions of the program, each out of its condition or by a walk, and plain lemmas.
-/
import Derived.Test.YtaehhpempnelhaaGreatDoorQTx3
import Derived.Test.YtaehhpempnelhaaGreatDoorQTx1
import Derived.Test.YtaehhpempnelhaaGreatDoorQZd
import Derived.Test.YtaehhpempnelhaaGreatDoorQBase3
import Derived.Test.YtaehhpempnelhaaGreatDoorRows
import Derived.Lib.LaidU8
import Derived.PinnedBridge
import Derived.Test.YtaehhpempnelhaaGreatDoorQVcs1
import Derived.Test.YtaehhpempnelhaaGreatDoorQTx2

set_option maxRecDepth 100000
namespace Go.Vc
open Go Go.Proofs Go.Plain
open Go.Lib (decDigits nDigits)
end Go.Vc

set_option maxRecDepth 100000
namespace Go.Vc
open Go Go.Proofs Go.Plain
open Go.Lib (decDigits nDigits)
end Go.Vc

set_option maxRecDepth 100000
namespace Go.Vc
open Go Go.Proofs Go.Plain
theorem chunks_a (x:UInt8) (hx:x.toNat<128) (r:List UInt8):chunks (x::r)=[x]::chunks r:=chunks_whole (whole_ascii x hx) r
end Go.Vc

set_option maxRecDepth 100000
namespace Go.Vc
open Go Go.Proofs Go.Plain
open Go.Lib (decDigits nDigits)
theorem parse_g (s:List UInt8) (p:Pl):parseBy grpS s=some p↔plRight p∧plNum p∧printL p=s:=parse_iff good_grp grpS_num s p
/-! The fixed answer. -/
theorem num_small (n:Nat) (h:n<10):numI (n:Nat)=[UInt8.ofNat (48+n)]:=dec_small h
end Go.Vc

set_option maxRecDepth 100000
namespace Go.Vc
open Go Go.Proofs Go.RowKit Go.Plain
abbrev f_say_Parse:FuncId:=18
theorem pc_say_Parse (s:List UInt8) (hs:s.length≤1000000):PC Tryz.prog f_say_Parse [(.str,.str s)] [(PlSh,PlC ((parseBy grpS s).getD Pl.zero)),(I64,.int (if (parseBy grpS s).isSome then 0 else 6))]:=by
 refine PC.of0 (by decide) ⟨⟨_,Tryz.func18,by kernel_rfl,by kernel_rfl⟩,fun w N vs hkw hrd=>?_⟩
 obtain ⟨v,r,rfl,⟨us,hu,rfl⟩,hr⟩:=hrd
 simp only[RdVs] at hr
 subst hr
 simp only[Rd] at hu
 subst hu
 refine (parse_walk w hkw s hs _ rfl).mono fun e w' ⟨cs,he,hrd,hb⟩=>⟨_,he,⟨[.agg cs,.int .i64 (if (parseBy grpS s).isSome then 0 else 6)],⟨_,_,rfl,⟨cs.toList,hrd.mono (Nat.le_refl _) fun b h _=>⟨rfl,.inr h⟩,rfl⟩,⟨_,_,rfl,⟨_,rfl,rfl⟩,rfl⟩⟩,rfl⟩,hb⟩
end Go.Vc

set_option maxRecDepth 100000
namespace Go.Vc
open Go Go.Proofs Go.Plain
theorem ty_elp {c:C} (h:Ty ElSh c):∃e:El,c=ElC e:=by
 obtain ⟨_,_,rfl,h1,_,_,e2,h2,e3⟩:=h
 obtain ⟨a,rfl,_⟩:=ty_int h1
 obtain ⟨b,rfl⟩:=ty_bytes h2
 simp only[Ty,C.ls.injEq] at e2 e3
 subst e3 e2
 exact ⟨⟨a,b⟩,rfl⟩
theorem ty_elsp {c:C} (h:Ty (.sl ElSh) c):∃l:List El,c=Els l∧l.length≤maxLen:=by
 obtain ⟨l,rfl,hl,hx⟩:=h
 obtain ⟨es,rfl,_⟩:=ty_list (e:=ElC) (P:=fun _=>True) fun x hx2=>by
  obtain ⟨e,he⟩:=ty_elp (hx x hx2)
  exact ⟨e,he,trivial⟩
 exact ⟨es,rfl,by simpa using hl⟩
theorem ty_mpp {c:C} (h:Ty MpSh c):∃e:Mp,c=MpC e:=by
 obtain ⟨_,_,rfl,h1,_,_,e2,h2,e3⟩:=h
 obtain ⟨a,rfl,_⟩:=ty_int h1
 obtain ⟨b,rfl,_⟩:=ty_int h2
 simp only[Ty,C.ls.injEq] at e2 e3
 subst e3 e2
 exact ⟨⟨a,b⟩,rfl⟩
theorem ty_mpsp {c:C} (h:Ty (.sl MpSh) c):∃l:List Mp,c=Mps l:=by
 obtain ⟨l,rfl,hl,hx⟩:=h
 obtain ⟨es,rfl,_⟩:=ty_list (e:=MpC) (P:=fun _=>True) fun x hx2=>by
  obtain ⟨e,he⟩:=ty_mpp (hx x hx2)
  exact ⟨e,he,trivial⟩
 exact ⟨es,rfl⟩
theorem ty_intsp {c:C} (h:Ty (.sl I64) c):∃l:List Int,c=Ints l:=by
 obtain ⟨l,rfl,hl,hx⟩:=h
 obtain ⟨es,rfl,_⟩:=ty_list (e:=C.int) (P:=fun _=>True) fun x hx2=>by
  obtain ⟨e,he,_⟩:=ty_int (hx x hx2)
  exact ⟨e,he,trivial⟩
 exact ⟨es,rfl⟩
theorem ty_pl {c:C} (h:Ty PlSh c):∃p:Pl,c=PlC p∧plNum p∧p.over.length≤maxLen∧p.adds.length≤maxLen:=by
 obtain ⟨_,_,rfl,⟨sm,rfl⟩,_,l1,e1,⟨m,rfl⟩,_,l2,e2,⟨st,rfl⟩,_,l3,e3,h3,_,l4,e4,⟨sq,rfl⟩,_,l5,e5,h5,_,l6,e6,⟨stm,rfl⟩,_,l7,e7,h7,_,l8,e8,⟨ss,rfl⟩,_,l9,e9,h9,_,l10,e10,h10,_,l11,e11,h11,_,l12,e12,h12,_,l13,e13,h13,_,l14,e14,⟨np,rfl⟩,e15⟩:=h
 obtain ⟨ty,rfl,_⟩:=ty_int h3
 obtain ⟨seq,rfl,q5⟩:=ty_nat rfl h5
 obtain ⟨time,rfl,q7⟩:=ty_nat rfl h7
 obtain ⟨ssrc,rfl,q9⟩:=ty_nat rfl h9
 obtain ⟨maps,rfl⟩:=ty_mpsp h10
 obtain ⟨over,rfl,o1⟩:=ty_elsp h11
 obtain ⟨drops,rfl⟩:=ty_intsp h12
 obtain ⟨adds,rfl,o2⟩:=ty_elsp h13
 simp only[Ty,C.ls.injEq] at e1 e2 e3 e4 e5 e6 e7 e8 e9 e10 e11 e12 e13 e14 e15
 subst e15 e14 e13 e12 e11 e10 e9 e8 e7 e6 e5 e4 e3 e2 e1
 simp only[IntKind.bits] at q5 q7 q9
 exact ⟨⟨sm,m,st,ty,sq,seq,stm,time,ss,ssrc,maps,over,drops,adds,np⟩,rfl,⟨by simp<;>omega,by simp<;>omega,by simp<;>omega,by simp<;>omega,by simp<;>omega,by simp<;>omega⟩,o1,o2⟩
end Go.Vc

set_option maxRecDepth 100000
namespace Go.Vc
open Go Go.Proofs Go.Plain Go.Lib
theorem u8extra:U8Extra Tryz.prog Tryz.lays260_ren:=⟨by kernel_rfl,by kernel_rfl,by kernel_rfl,by kernel_rfl,by kernel_rfl,by kernel_rfl,by kernel_rfl⟩
theorem kw_of_tabs {W:World} (h:Lib.Utf8Tabs 4 5 W):∀x∈tabs,∀g,tabAt Tryz.prog x.1=some g→CellsAt W g 0 x.2:=by
 intro x hx g hg
 simp only[tabs,List.mem_cons,List.mem_nil_iff,or_false] at hx
 rcases hx with rfl|rfl
 ·obtain rfl:4=g:=Option.some.inj (tab_first.symm.trans hg)
  intro j u hu
  rw[List.getElem?_map] at hu
  obtain ⟨c,hc,rfl⟩:=Option.map_eq_some_iff.1 hu
  obtain ⟨hj,rfl⟩:=List.getElem?_eq_some_iff.1 hc
  simp only[List.length_range] at hj
  simp only[List.getElem_range]
  rw[Nat.zero_add,h.1 j hj,first_eq ⟨j,hj⟩]
 ·obtain rfl:5=g:=Option.some.inj (tab_accept.symm.trans hg)
  intro j u hu
  rw[List.getElem?_map] at hu
  obtain ⟨c,hc,rfl⟩:=Option.map_eq_some_iff.1 hu
  have hj:j<32:=(List.getElem?_eq_some_iff.1 hc).1
  have ha:=accept_eq ⟨j/2,by omega⟩
  have hh:=h.2 (j/2) (by omega)
  rw[Nat.zero_add]
  rcases Nat.mod_two_eq_zero_or_one j with h0|h0
  ·have e:2*(j/2)=j:=by omega
   simp only[e] at ha hh
   rw[hh.1]
   have:=ha.1.symm.trans hc
   rw[Option.some.inj this]
  ·have e:2*(j/2)+1=j:=by omega
   simp only[e] at ha hh
   rw[hh.2]
   have:=ha.2.symm.trans hc
   rw[Option.some.inj this]
theorem accept_data:(YtaehhpempnelhaaGreatDoor.Rows.laid_unicode_utf8_acceptRanges:DataW Unit)=acceptData:=by kernel_rfl
theorem pow_data:(YtaehhpempnelhaaGreatDoor.Rows.laid_internal_strconv_uint64pow10:DataW Unit)=tabData .u64 Lib.pow10Tab:=by kernel_rfl
theorem pow_ty:(Tryz.prog.globals[2]?).map (·.type)=some 359:=by kernel_rfl
theorem kwp_of {W:World} (h:VarReads Tryz.prog W "internal/strconv.uint64pow10" (tabData .u64 Lib.pow10Tab)):KWp Tryz.prog W:=by
 intro g hg
 obtain rfl:2=g:=Option.some.inj (tab_pow.symm.trans hg)
 obtain ⟨g,t,cs,fuel,p,h1,h2,h3,h4⟩:=h
 obtain rfl:2=g:=Option.some.inj ((show Tryz.prog.globalNamed "internal/strconv.uint64pow10" =some 2 from tab_pow2).symm.trans h1)
 obtain rfl:359=t:=Option.some.inj (pow_ty.symm.trans h2)
 have hc:=cells_of_tab (P:=Tryz.prog) Tryz.underlying359 Tryz.underlying68 (by kernel_rfl) (by kernel_rfl) h4
 unfold World.var? at h3
 rw[h1] at h3
 simp only[Option.bind_some] at h3
 split at h3
 ·rename_i cs' t' fz hh
  obtain rfl:=Option.some.inj h3
  refine ⟨t',fz,?_⟩
  rw[hh,pow_eq,←hc]
 ·cases h3
theorem kw_row {W:World} (h:laidMet Tryz.prog YtaehhpempnelhaaGreatDoor.Rows.topOrderRow.laid W):KW Tryz.prog W:=by
 have h1:=Lib.laidMet.reads h (n:= "unicode/utf8.first") (d:=firstData) (by rw[←Pinned.utf8First_eq];exact .tail _ (.tail _ (.tail _ (.tail _ (.tail _ (.tail _ (.head _)))))))
 have h2:=Lib.laidMet.reads h (n:= "unicode/utf8.acceptRanges") (d:=acceptData) (by rw[←accept_data];exact .tail _ (.tail _ (.tail _ (.head _))))
 have h3:=Lib.laidMet.reads h (n:= "internal/strconv.uint64pow10") (d:=tabData .u64 Lib.pow10Tab) (by rw[←pow_data];exact .tail _ (.tail _ (.head _)))
 exact ⟨kw_of_tabs (utf8Tabs_of_reads (ρ:=Tryz.lays260_ren) Tryz.lays260 u8extra h1 h2),kwp_of h3⟩
end Go.Vc

set_option maxRecDepth 100000
namespace Go.Vc
open Go Go.Proofs Go.Plain

def spanE (size at_ n:Int):Int:=if at_>size∨n>size-at_ then 2 else 0
theorem pc_octet_span (size at_ n:Int) (h1:0≤size) (h2:size≤9223372036854775807) (h3:0≤at_):
  PC Tryz.prog f_octet_span [(I64,.int size),(I64,.int at_),(I64,.int n)] [(I64,.int (spanE size at_ n))]:=by
 apply pcv_octet_span rfl
 simp only[vc_octet_span,sVC,sEV,sENV,sVAL,sBO,forall_const]
 refine ⟨fun _=>by omega,fun _=>?_,fun _=>?_⟩
 ·rw[spanE,if_pos (by omega)]
 ·rw[spanE,if_neg (by omega)]
theorem byte_of (v:Nat):C.int (IntKind.u8.wrap (v:Int))= .int (UInt8.ofNat v).toNat:=by
 simp only[wrapu8,UInt8.toNat_ofNat']
 congr 1
theorem rep_set (n j:Nat) (hj:j<n) (x:UInt8) (l:List UInt8):(List.replicate (n-j) 0++l).set (n-1-j) x=List.replicate (n-(j+1)) 0++x::l:=by
 have h:n-j=(n-1-j)+1:=by omega
 have h':n-(j+1)=n-1-j:=by omega
 rw[h,h',List.replicate_succ',List.append_assoc]
 generalize n-1-j=m
 rw[List.set_append_right _ _ (by simp)]
 simp
theorem pc_octet_bytesOf (v n:Nat) (h1:v<18446744073709551616) (h2:n≤8):
  PC Tryz.prog f_octet_bytesOf [(U64,.int v),(I64,.int n)] [(Byt,B (toBE n v))]:=by
 apply pcv_octet_bytesOf rfl
 simp only[vc_octet_bytesOf,sVC,sEV,sENV,sVAL,sBO,forall_const]
 refine ⟨by omega,by omega,by omega,by omega,?_⟩
 refine VC.go_loop (fun j:Nat=> [.int ((v/256^j:Nat):Int),.int ((n:Int)-1-j),B (List.replicate (n-j) 0++toBE j v)]) (fun j=>j≤n) (fun j=>n-j) 0 ?_ (Nat.zero_le _) fun j hj=>?_
 ·simp only[sEV,sENV,sVAL,sBO,forall_const]
  simp[toBE,ofBytes_rep]
 ·simp only[sVC,sEV,sENV,sVAL,sBO,forall_const]
  refine ⟨fun hc=>⟨by omega,by omega,by omega,j+1,?_,by omega,by omega⟩,fun hc=>?_⟩
  ·have e1:((n:Int)-1-j).toNat=n-1-j:=by omega
   have e2:arith .shr .u64 ((v/256^j:Nat):Int) 8=((v/256^(j+1):Nat):Int):=by
    rw[arith_shr,Nat.pow_succ,←Nat.div_div_eq_div_mul]
    simp[IntKind.bits]
   rw[e1,e2,byte_of,ofBytes_set',rep_set n j (by omega),←toBE_cons]
   congr 2
   simp;omega
  ·have:j=n:=by omega
   subst this
   simp
def getE (len at_ n:Int):Int:=if n<1∨8<n∨at_<0 then 1 else spanE len at_ n
def cut (b:List UInt8) (at_ n:Int):List UInt8:=(b.drop at_.toNat).take n.toNat
def getV (b:List UInt8) (at_ n:Int):Nat:=if getE b.length at_ n=0 then be (cut b at_ n) else 0
theorem getE_zero {len at_ n:Int}:getE len at_ n=0↔1≤n∧n≤8∧0≤at_∧at_≤len∧n≤len-at_:=by
 unfold getE spanE
 split
 ·simp;omega
 ·split<;>simp<;>omega
theorem cut_length {b:List UInt8} {at_ n:Int} (h:at_≤b.length∧n≤b.length-at_) (h0:0≤at_):(cut b at_ n).length=n.toNat:=by
 simp only[cut,List.length_take,List.length_drop]
 omega
theorem sub_cut (b:List UInt8) (at_ n:Int) (h:0≤at_) (hn:0≤n):((ofBytes b).take (at_+n).toNat).drop at_.toNat=ofBytes (cut b at_ n):=by
 have e:(at_+n).toNat=at_.toNat+n.toNat:=by omega
 rw[ofBytes_take,ofBytes_drop,e,take_drop]
 rfl
theorem pc_octet_Get (b:List UInt8) (at_ n:Int) (h1:b.length≤9223372036854775807):
  PC Tryz.prog f_octet_Get [(Byt,B b),(I64,.int at_),(I64,.int n)] [(U64,.int (getV b at_ n)),(I64,.int (getE b.length at_ n))]:=by
 apply pcv_octet_Get rfl
 simp only[vc_octet_Get,sVC,sEV,sENV,sVAL,sBO,forall_const]
 refine ⟨fun hc=>?_,fun hc=>⟨_,pc_octet_span _ _ _ ?_ ?_ ?_,fun he=>?_,fun he=>?_⟩⟩
 ·have e:getE b.length at_ n=1:=by rw[getE,if_pos (by omega)]
  simp[getV,e]
 ·omega
 ·simp;omega
 ·omega
 ·have e:getE b.length at_ n=spanE b.length at_ n:=by rw[getE,if_neg (by omega)]
  simp only[C.toInt_int,ofBytes_length] at he ⊢
  rw[getV,e,if_neg he]
  rfl
 ·have e:getE b.length at_ n=0:=by rw[getE,if_neg (by omega)];simpa using he
  have hz:=getE_zero.1 e
  have hl:=cut_length ⟨hz.2.2.2.1,hz.2.2.2.2⟩ hz.2.2.1
  rw[ofBytes_length]
  refine ⟨by omega,by omega,by omega,by omega,?_⟩
  refine VC.go_loop (fun i:Nat=> [.int ((be ((cut b at_ n).take i):Nat):Int),.int i]) (fun i=>i≤n.toNat) (fun i=>n.toNat-i) 0 ?_ (Nat.zero_le _) fun i hi=>?_
  ·rfl
  ·simp only[sVC,sEV,sENV,sVAL,sBO,forall_const]
   rw[sub_cut b at_ n hz.2.2.1 (by omega)]
   simp only[ofBytes_length,hl]
   refine ⟨fun hc=>⟨by omega,by omega,by omega,i+1,?_,by omega,by omega⟩,fun hc=>?_⟩
   ·have hx:=getD_toNat_lt (cut b at_ n) i
    have hv:=be_take_lt (cut b at_ n) i
    have hp:256^i≤256^7:=Nat.pow_le_pow_right (by decide) (by omega)
    have hp':(256:Nat)^7=72057594037927936:=by decide
    have e1:arith .shl .u64 ((be ((cut b at_ n).take i):Nat):Int) 8=((be ((cut b at_ n).take i)*2^8:Nat):Int):=by
     rw[arith_shl,wrapu64]
     simp[IntKind.bits]
     omega
    simp only[Int.toNat_natCast,ofBytes_getD,C.toInt_int,e1,wrapu64]
    have e2:(((cut b at_ n).getD i 0).toNat:Int)%18446744073709551616=((((cut b at_ n).getD i 0).toNat:Nat):Int):=by omega
    rw[e2,arith_orU rfl (by show _<2^64;omega) (by show _<2^64;omega),or_add _ _ _ (by omega),be_take_succ _ _ (by omega)]
    simp
   ·rw[List.take_of_length_le (by omega)]
    simp only[getV,e,if_true]
theorem pow_lt8 (v:Nat) (h:v<18446744073709551616) {k:Nat} (hk:k=8):v<256^k:=by subst hk;simpa using h
def putE (v:Nat) (n:Int):Int:=if n<1∨8<n then 1 else if v<256^n.toNat then 0 else 6
def putB (v:Nat) (n:Int):List UInt8:=if putE v n=0 then toBE n.toNat v else []
theorem putE_zero {v:Nat} {n:Int}:putE v n=0↔1≤n∧n≤8∧v<256^n.toNat:=by
 unfold putE
 split
 ·simp;omega
 ·split
  ·simp[*];omega
  ·simp[*]
theorem pc_octet_Put (v:Nat) (n:Int) (h1:v<18446744073709551616):
  PC Tryz.prog f_octet_Put [(U64,.int v),(I64,.int n)] [(Byt,B (putB v n)),(I64,.int (putE v n))]:=by
 apply pcv_octet_Put rfl
 simp only[vc_octet_Put,sVC,sEV,sENV,sVAL,sBO,forall_const]
 refine ⟨fun hc=>?_,fun hc=>⟨fun h=>by omega,fun h=>by rw[wrapu64];omega,fun hc'=>?_,fun hc'=>?_⟩⟩
 ·have e:putE v n=1:=by rw[putE,if_pos (by omega)]
  simp[putB,e]
 ·have e:putE v n=6:=by
   rw[putE,if_neg (by omega),if_neg]
   have h3:=hc'.2
   intro h
   apply h3
   rw[arith_shr,wrapu64]
   obtain ⟨m,rfl⟩:∃m:Nat,n=m:=⟨n.toNat,by omega⟩
   have e1:((8:Int)*m%18446744073709551616).toNat=8*m:=by omega
   rw[e1,Nat.min_eq_left (by simp[IntKind.bits];omega)]
   simp only[Int.toNat_natCast] at h
   have:(256:Nat)^m=2^(8*m):=by rw[Nat.pow_mul]
   rw[this] at h
   exact Int.ediv_eq_zero_of_lt (by omega) (by exact_mod_cast h)
  simp[putB,e]
 ·have e:putE v n=0:=by
   rw[putE_zero]
   refine ⟨by omega,by omega,?_⟩
   rcases hc' with h|h
   ·exact pow_lt8 v h1 (by omega)
   ·rw[arith_shr,wrapu64] at h
    obtain ⟨m,rfl⟩:∃m:Nat,n=m:=⟨n.toNat,by omega⟩
    have e1:((8:Int)*m%18446744073709551616).toNat=8*m:=by omega
    rw[e1,Nat.min_eq_left (by simp[IntKind.bits];omega)] at h
    simp only[Int.toNat_natCast]
    have:(256:Nat)^m=2^(8*m):=by rw[Nat.pow_mul]
    rw[this]
    apply Nat.lt_of_not_le
    intro hle
    have h5:v/2^(8*m)=0:=by exact_mod_cast h
    have h6:0<v/2^(8*m):=Nat.div_pos hle (Nat.pow_pos (by decide))
    omega
  obtain ⟨m,rfl⟩:∃m:Nat,n=m:=⟨n.toNat,by omega⟩
  refine ⟨_,pc_octet_bytesOf v m h1 (by omega),?_⟩
  simp[putB,e]
def put (b:List UInt8) (k:Nat) (x:List UInt8):List UInt8:=b.take k++(x++b.drop (k+x.length))
/-- Many lists of bytes. -/
abbrev Bs (l:List (List UInt8)):C:= .ls (l.map B)
theorem Bs_getD (l:List (List UInt8)) (i:Nat) (h:i<l.length):(l.map B).getD i default=B (l.getD i []):=by
 simp[List.getD,h]
theorem flat_take (l:List (List UInt8)) (i:Nat) (h:i<l.length):(l.take (i+1)).flatten=(l.take i).flatten++l.getD i []:=by
 rw[List.take_succ_eq_append_getElem h,List.flatten_append]
 simp[List.getD,h]
theorem join_le (l:List (List UInt8)) (i:Nat):(l.take i).flatten.length≤l.flatten.length:=by
 have h:=congrArg (fun x:List (List UInt8)=>x.flatten.length) (List.take_append_drop i l)
 simp only[List.flatten_append,List.length_append] at h
 omega
theorem pc_octet_Join (l:List (List UInt8)) (h1:l.length≤140737488355328) (h2:l.flatten.length≤140737488355328):
  PC Tryz.prog f_octet_Join [(.sl Byt,Bs l)] [(Byt,B l.flatten)]:=by
 apply pcv_octet_Join rfl
 simp only[vc_octet_Join,sVC,sEV,sENV,sVAL,sBO,forall_const]
 refine VC.go_loop (fun i:Nat=> [.int (((l.take i).flatten.length:Nat):Int),.int i]) (fun i=>i≤l.length) (fun i=>l.length-i) 0 rfl (Nat.zero_le _) fun i hi=>?_
 simp only[sVC,sEV,sENV,sVAL,sBO,forall_const,List.length_map]
 have hle:=join_le l i
 refine ⟨fun hc=>?_,fun hc=>⟨by omega,by omega,?_⟩⟩
 ·have hle':=join_le l (i+1)
  have e:=flat_take l i (by omega)
  have e':=congrArg List.length e
  rw[List.length_append] at e'
  simp only[Int.toNat_natCast,Bs_getD l i (by omega),v_ls,ofBytes_length]
  refine ⟨by omega,by omega,by omega,by omega,i+1,?_,by omega,by omega⟩
  rw[e']
  simp
 ·refine VC.go_loop (fun i:Nat=> [B (l.take i).flatten,.int i]) (fun i=>i≤l.length) (fun i=>l.length-i) 0 rfl (Nat.zero_le _) fun j hj=>?_
  simp only[sVC,sEV,sENV,sVAL,sBO,forall_const,List.length_map]
  refine ⟨fun hc=>?_,fun hc=>?_⟩
  ·have hle':=join_le l (j+1)
   have e:=flat_take l j (by omega)
   have e':=congrArg List.length e
   rw[List.length_append] at e'
   simp only[Int.toNat_natCast,Bs_getD l j (by omega),v_ls,ofBytes_length]
   refine ⟨by omega,by omega,by omega,by omega,j+1,?_,by omega,by omega⟩
   rw[e,ofBytes_append]
   simp
  ·rw[List.take_of_length_le (by omega)]
end Go.Vc

set_option maxRecDepth 100000
namespace Go.Vc
open Go Go.Proofs Go.Plain

abbrev HdSh:Sh:= .pair .bool (.pair .bool (.pair .bool (.pair I64 (.pair U16 (.pair U32 (.pair U32 (.pair (.sl U32) .unit)))))))
abbrev HdC (h:Hd):C:= .ls [.bool h.pad,.bool h.ext,.bool h.mark,.int h.typ,.int h.seq,.int h.time,.int h.ssrc,Ns h.csrc]
theorem pc_head_Right (h:Hd):PC Tryz.prog f_head_Right [(HdSh,HdC h)] [(.bool,.bool (decide h.right))]:=by
 apply pcv_head_Right rfl
 simp only[vc_head_Right,sVC,sEV,sENV,sVAL,sBO,forall_const,List.length_map]
 congr 3
 by_cases hr:h.right
 ·have:=hr;obtain ⟨h1,h2,h3⟩:=this
  simp[hr,h1,show h.typ≤127 by omega,show (h.csrc.length:Int)≤15 by omega]
 ·simp only[hr,decide_false]
  unfold Hd.right at hr
  by_cases h1:0≤h.typ<;>by_cases h2:h.typ≤127<;>simp[h1,h2]
  omega
theorem pc_head_Size (h:Hd):PC Tryz.prog f_head_Size [(HdSh,HdC h)] [(I64,.int (if h.right then 12+4*(h.csrc.length:Int) else 0))]:=by
 apply pcv_head_Size rfl
 simp only[vc_head_Size,sVC,sEV,sENV,sVAL,sBO,forall_const,List.length_map]
 refine ⟨_,pc_head_Right h,fun hr=>?_,fun hr=>?_⟩
 ·simp only[v_bool,decide_eq_false_iff_not] at hr
  rw[if_neg hr]
 ·simp only[v_bool,decide_eq_true_eq] at hr
  have:=hr;obtain ⟨h1,h2,h3⟩:=this
  rw[if_pos hr]
  exact ⟨by omega,by omega,rfl⟩
theorem word_bytes (v:Nat) (hv:v<4294967296): [C.int (IntKind.u8.wrap (arith .shr .u32 v 24)),C.int (IntKind.u8.wrap (arith .shr .u32 v 16)),C.int (IntKind.u8.wrap (arith .shr .u32 v 8)),C.int (IntKind.u8.wrap v)]=ofBytes (toBE 4 v):=by
 have e1:arith .shr .u32 (v:Int) 24=((v/2^24:Nat):Int):=by rw[arith_shr];simp[IntKind.bits]
 have e2:arith .shr .u32 (v:Int) 16=((v/2^16:Nat):Int):=by rw[arith_shr];simp[IntKind.bits]
 have e3:arith .shr .u32 (v:Int) 8=((v/2^8:Nat):Int):=by rw[arith_shr];simp[IntKind.bits]
 rw[e1,e2,e3,byte_nat,byte_nat,byte_nat,byte_nat]
 simp[toBE,ofBytes,Nat.div_div_eq_div_mul]
theorem pg_head_word (b:List UInt8) (v:Nat) (hv:v<4294967296) (hb:b.length≤1000000):PC Tryz.prog g_head_word [(Byt,B b),(U32,.int v)] [(Byt,B (b++toBE 4 v))]:=by
 apply pcg_head_word rfl
 simp only[vg_head_word,sVC,sEV,sENV,sVAL,sBO,forall_const,word_bytes v hv,ofBytes_append,ofBytes_length,toBE_length]
 omega
theorem first_byte:∀n:Nat,n<16→∀p e:Bool,
  (if e=true then arith .or .u8 (if p=true then arith .or .u8 (IntKind.u8.wrap (arith .or .i64 128 n)) 32 else IntKind.u8.wrap (arith .or .i64 128 n)) 16
   else if p=true then arith .or .u8 (IntKind.u8.wrap (arith .or .i64 128 n)) 32 else IntKind.u8.wrap (arith .or .i64 128 n))=((UInt8.ofNat (128+32*p.toNat+16*e.toNat+n)).toNat:Int):=by decide+kernel
theorem second_byte:∀n:Nat,n<128→∀m:Bool,(if m=true then arith .or .u8 (IntKind.u8.wrap (n:Int)) 128 else IntKind.u8.wrap (n:Int))=((UInt8.ofNat (128*m.toNat+n)).toNat:Int):=by decide+kernel
theorem words_snoc (l:List Nat) (i:Nat) (h:i<l.length):words (l.take (i+1))=words (l.take i)++toBE 4 (l.getD i 0):=by
 rw[List.take_succ_eq_append_getElem h]
 simp only[words,List.map_append,List.flatten_append]
 simp[List.getD,h]
theorem mem_getD {l:List Nat} {i:Nat} (h:i<l.length):l.getD i 0∈l:=by
 simp[List.getD,h]
def hwB (h:Hd):List UInt8:=if h.right then h.bytes else []
def hwE (h:Hd):Int:=if h.right then 0 else 1
theorem pc_head_Write (h:Hd) (ho:h.ok):PC Tryz.prog f_head_Write [(HdSh,HdC h)] [(Byt,B (hwB h)),(I64,.int (hwE h))]:=by
 apply pcv_head_Write rfl
 simp only[vc_head_Write,sVC,sEV,sENV,sVAL,sBO,forall_const,List.length_map]
 refine ⟨_,pc_head_Right h,fun hr=>?_,fun hr=>?_⟩
 ·simp only[v_bool,decide_eq_false_iff_not] at hr
  rw[hwB,hwE,if_neg hr,if_neg hr]
  rfl
 ·simp only[v_bool,decide_eq_true_eq] at hr
  have:=hr;obtain ⟨h1,h2,h3⟩:=this
  obtain ⟨o1,o2,o3,o4⟩:=ho
  obtain ⟨t,ht⟩:∃t:Nat,h.typ=t:=⟨h.typ.toNat,by omega⟩
  have f1:=first_byte h.csrc.length h3 h.pad h.ext
  have f2:=second_byte t (by omega) h.mark
  have f3:arith .shr .u16 (h.seq:Int) 8=((h.seq/2^8:Nat):Int):=by rw[arith_shr];simp[IntKind.bits]
  have e4: [C.int ((UInt8.ofNat (128+32*h.pad.toNat+16*h.ext.toNat+h.csrc.length)).toNat:Int),C.int ((UInt8.ofNat (128*h.mark.toNat+t)).toNat:Int),C.int ((UInt8.ofNat (h.seq/2^8)).toNat:Int),C.int ((UInt8.ofNat h.seq).toNat:Int)]=
    ofBytes (UInt8.ofNat h.first::UInt8.ofNat h.second::toBE 2 h.seq):=by
   simp[ofBytes,toBE,Hd.first,Hd.second,ht]
  rw[ht,f1,f2,f3,byte_nat,byte_nat,e4]
  have e0:List.replicate (Int.toNat 0) (C.int 0)=[]:=rfl
  rw[e0,List.nil_append,ofBytes_length]
  refine ⟨by omega,by omega,by omega,by omega,by simp,_,pg_head_word _ _ o2 (by simp),_,pg_head_word _ _ o3 (by simp),?_⟩
  refine VC.go_loop (fun i:Nat=> [B ((UInt8.ofNat h.first::UInt8.ofNat h.second::toBE 2 h.seq)++toBE 4 h.time++toBE 4 h.ssrc++words (h.csrc.take i)),.int i]) (fun i=>i≤h.csrc.length) (fun i=>h.csrc.length-i) 0 ?_ (Nat.zero_le _) fun i hi=>?_
  ·simp only[sEV,sENV,sVAL,sBO,forall_const]
   simp[words]
  ·simp only[sVC,sEV,sENV,sVAL,sBO,forall_const,List.length_map]
   have hwl:=words_length (h.csrc.take i)
   rw[List.length_take] at hwl
   refine ⟨fun hc=>⟨by omega,by omega,?_⟩,fun hc=>?_⟩
   ·rw[Int.toNat_natCast,ofNats_getD _ _ (by omega)]
    refine ⟨_,pg_head_word _ _ (o4 _ (mem_getD (by omega))) (by simp;omega),by omega,i+1,?_,by omega,by omega⟩
    rw[words_snoc _ _ (by omega)]
    simp
   ·rw[List.take_of_length_le (by omega),hwB,hwE,if_pos hr,if_pos hr]
    simp[Hd.bytes]
theorem pc_head_wordAt (b:List UInt8) (i:Nat) (hi:i+4≤b.length) (hb:b.length≤9223372036854775807):PC Tryz.prog f_head_wordAt [(Byt,B b),(I64,.int i)] [(U32,.int (num b i 4))]:=by
 apply pcv_head_wordAt rfl
 simp only[vc_head_wordAt,sVC,sEV,sENV,sVAL,sBO,forall_const]
 refine ⟨_,_,pc_octet_Get b i 4 hb,?_⟩
 have e:getE b.length i 4=0:=by rw[getE_zero];omega
 have hl:=num_lt b i 4
 have e2:getV b i 4=num b i 4:=by rw[getV,if_pos e];rfl
 rw[v_int,e2,wrapu32]
 congr 3
 omega
theorem bits:∀x:Nat,x<256→arith .shr .u8 x 6=((x/64:Nat):Int)∧arith .and .u8 x 15=((x%16:Nat):Int)∧(decide (arith .and .u8 x 32≠0))=decide (x/32%2=1)∧(decide (arith .and .u8 x 16≠0))=decide (x/16%2=1)∧
  (decide (arith .and .u8 x 128≠0))=decide (128≤x)∧arith .and .u8 x 127=((x%128:Nat):Int)∧arith .quo .u8 x 64=((x/64:Nat):Int)∧arith .rem .u8 x 16=((x%16:Nat):Int)∧arith .rem .u8 x 128=((x%128:Nat):Int)∧
  (decide (arith .rem .u8 (arith .quo .u8 x 32) 2=1))=decide (x/32%2=1)∧(decide (arith .rem .u8 (arith .quo .u8 x 16) 2=1))=decide (x/16%2=1):=by decide+kernel
theorem atD (b:List UInt8) (i:Nat):(((b.getD i 0).toNat:Nat):Int)=(at_ b i:Int):=rfl
theorem hd_bad {b:List UInt8} {e:Int} (h:hdE b=e) (he:e≠0):HdC (hdH b)= .ls [.bool false,.bool false,.bool false,.int 0,.int 0,.int 0,.int 0,.ls []]∧hdN b=0:=by
 rw[hdH,hdN,if_neg (by rw[h];exact he),if_neg (by rw[h];exact he)]
 exact ⟨rfl,rfl⟩
theorem i64_small (n:Nat) (h:n<65536):IntKind.i64.wrap (n:Int)=n:=wrapi64_in (by omega)
theorem seq_of (b:List UInt8) (h:4≤b.length):arith .or .u16 (arith .shl .u16 (IntKind.u16.wrap (at_ b 2:Int)) 8) (IntKind.u16.wrap (at_ b 3:Int))=(num b 2 2:Int):=by
 have h2:=at_lt b 2
 have h3:=at_lt b 3
 have e1:IntKind.u16.wrap (at_ b 2:Int)=(at_ b 2:Int):=by rw[wrapu16];omega
 have e2:IntKind.u16.wrap (at_ b 3:Int)=(at_ b 3:Int):=by rw[wrapu16];omega
 have e3:arith .shl .u16 (at_ b 2:Int) 8=((at_ b 2*2^8:Nat):Int):=by
  rw[arith_shl,wrapu16]
  simp[IntKind.bits]
  omega
 rw[e1,e2,e3,arith_orU rfl (by show _<2^16;omega) (by show _<2^16;omega),or_add _ _ _ (by omega)]
 have e4:(b.drop 2).take 2=[b.getD 2 0,b.getD 3 0]:=by
  match b,h with
  |_::_::x::y::l,_=>rfl
 simp[num,e4,at_,be]
theorem range_num (b:List UInt8) (i:Nat):((List.range (i+1)).map fun j=>num b (12+4*j) 4)=((List.range i).map fun j=>num b (12+4*j) 4)++ [num b (12+4*i) 4]:=by
 rw[List.range_succ,List.map_append]
 rfl
theorem pc_head_Read (b:List UInt8) (hb:b.length≤140737488355328):PC Tryz.prog f_head_Read [(Byt,B b)] [(HdSh,HdC (hdH b)),(I64,.int (hdN b)),(I64,.int (hdE b))]:=by
 apply pcv_head_Read rfl
 have i0:Int.toNat 0=0:=rfl
 have i1:Int.toNat 1=1:=rfl
 have i2:Int.toNat 2=2:=rfl
 have i3:Int.toNat 3=3:=rfl
 obtain ⟨q1,q2,q3,q4,_,_,_⟩:=bits (at_ b 0) (at_lt b 0)
 obtain ⟨_,_,_,_,q5,q6,_⟩:=bits (at_ b 1) (at_lt b 1)
 have q7:=i64_small (at_ b 0%16) (by omega)
 have q8:=i64_small (at_ b 1%128) (by omega)
 simp only[vc_head_Read,sVC,sEV,sENV,sVAL,sBO,forall_const,ofBytes_length,ofBytes_getD,i0,atD,q1,q2,q7]
 refine ⟨fun hc=>?_,fun hc=>⟨by omega,fun hv=>?_,fun hv=>⟨by omega,by omega,by omega,fun hs=>?_,fun hs=>⟨by omega,by omega,by omega,by omega,by omega,by omega,?_⟩⟩⟩⟩
 ·have e:hdE b=2:=by unfold hdE;rw[if_pos (by omega)]
  rw[(hd_bad e (by decide)).1,(hd_bad e (by decide)).2,e]
  rfl
 ·have e:hdE b=3:=by unfold hdE;rw[if_neg (by omega),if_pos (by omega)]
  rw[(hd_bad e (by decide)).1,(hd_bad e (by decide)).2,e]
  rfl
 ·have e:hdE b=2:=by unfold hdE;rw[if_neg (by omega),if_neg (by omega),if_pos (by omega)]
  rw[(hd_bad e (by decide)).1,(hd_bad e (by decide)).2,e]
  rfl
 ·have e:hdE b=0:=by rw[hdE_zero];omega
  refine ⟨_,pc_head_wordAt b 4 (by omega) (by omega),_,pc_head_wordAt b 8 (by omega) (by omega),?_⟩
  refine VC.go_loop (fun i:Nat=> [.int i,Ns ((List.range i).map fun j=>num b (12+4*j) 4)]) (fun i=>i≤at_ b 0%16) (fun i=>at_ b 0%16-i) 0 rfl (Nat.zero_le _) fun i hi=>?_
  simp only[sVC,sEV,sENV,sVAL,sBO,forall_const,ofBytes_length,ofBytes_getD,i0,i1,i2,i3,atD,q2,q7,q3,q4,q5,q6,q8,List.length_map,List.length_range]
  refine ⟨fun hc=>⟨by omega,by omega,?_⟩,fun hc=>?_⟩
  ·have ei:(12:Int)+4*(i:Int)=((12+4*i:Nat):Int):=by omega
   rw[ei]
   refine ⟨_,pc_head_wordAt b (12+4*i) (by omega) (by omega),by simp;omega,by omega,i+1,?_,by omega,by omega⟩
   rw[range_num,ofNats_snoc]
   simp
  ·have hi2:i=at_ b 0%16:=by omega
   rw[seq_of b (by omega),hdH,hdN,if_pos e,if_pos e,e,hi2]
   simp[Hd.of]
end Go.Vc

set_option maxRecDepth 100000
namespace Go.Vc
open Go Go.Proofs Go.Plain
abbrev PkSh:Sh:= .pair HdSh (.pair U16 (.pair Byt (.pair Byt (.pair I64 .unit))))
abbrev PkC (k:Pk):C:= .ls [HdC k.hd,.int (k.prof:Int),B k.ext,B k.pay,.int (k.pad:Int)]
theorem pc_pad_Trail (b:List UInt8) (hb:b.length≤1000000):PC Tryz.prog f_pad_Trail [(Byt,B b)] [(I64,.int (trN b:Int)),(I64,.int (if trN b=0 then 5 else 0))]:=by
 apply pcv_pad_Trail rfl
 simp only[vc_pad_Trail,sVC,sEV,sENV,sVAL,sBO,forall_const,ofBytes_length]
 have hlt:=at_lt b (b.length-1)
 refine ⟨fun h0=>?_,fun h0=>?_⟩
 ·have h0:b.length=0:=by omega
  unfold trN
  rw[if_pos h0]
  rfl
 ·have h0:¬b.length=0:=by omega
  have e1:((b.length:Int)-1).toNat=b.length-1:=by omega
  have e2:((ofBytes b).getD ((b.length:Int)-1).toNat default).toInt=(at_ b (b.length-1):Int):=by
   rw[e1,ofBytes_getD]
   rfl
  rw[e2]
  have e3:IntKind.i64.wrap (at_ b (b.length-1):Int)=(at_ b (b.length-1):Int):=by unfold IntKind.wrap;simp[IntKind.bits,IntKind.signed];omega
  rw[e3]
  unfold trN
  rw[if_neg h0]
  refine ⟨by omega,by omega,by omega,fun h=>?_,fun h=>?_⟩
  ·rw[if_pos (by omega)]
   rfl
  ·rw[if_neg (by omega),if_neg (by omega)]
theorem pc_packet_part (b:List UInt8) (hb:b.length≤1000000):PC Tryz.prog f_packet_part [(Byt,B b)] [(Byt,B b)]:=by
 apply pcv_packet_part rfl
 simp only[vc_packet_part,sVC,sEV,sENV,sVAL,sBO,forall_const,ofBytes_length]
 refine ⟨fun h0=>?_,fun h0=>?_⟩
 ·obtain rfl:b=[]:=List.eq_nil_of_length_eq_zero (by omega)
  rfl
 ·have:=pc_octet_Join [b] (by simp) (by simp;omega)
  simp only[List.map_cons,List.map_nil,List.flatten_cons,List.flatten_nil,List.append_nil] at this
  exact ⟨_,this,rfl⟩
theorem rem4 (n:Nat) (h:n≤1000000):arith .rem .i64 (n:Int) 4=((n%4:Nat):Int)∧arith .quo .i64 (n:Int) 4=((n/4:Nat):Int):=by
 constructor
 ·show (n:Int).tmod ((4:Nat):Int)=_
  rw[←Int.ofNat_tmod]
 ·show IntKind.i64.wrap ((n:Int).tdiv 4)=_
  have:(n:Int).tdiv 4=((n/4:Nat):Int):=by
   show (n:Int).tdiv ((4:Nat):Int)=_
   rw[←Int.ofNat_tdiv]
  rw[this]
  unfold IntKind.wrap
  simp[IntKind.bits,IntKind.signed]
  omega
theorem pc_packet_fits (k:Pk) (hb:k.ext.length≤1000000):PC Tryz.prog f_packet_fits [(PkSh,PkC k)] [(.bool,.bool (decide k.fits))]:=by
 apply pcv_packet_fits rfl
 simp only[vc_packet_fits,sVC,sEV,sENV,sVAL,sBO,forall_const,ofBytes_length]
 obtain ⟨r1,r2⟩:=rem4 k.ext.length hb
 rw[r1,r2]
 refine ⟨_,pc_head_Right k.hd,fun h=>?_,fun h=>⟨fun h2=>?_,fun h2=>⟨fun h3=>?_,fun h3=>?_⟩⟩⟩
 ·congr 3
  symm
  rw[decide_eq_false_iff_not]
  rintro ⟨f1,f2,f3,f4,f5⟩
  rcases h with (h|h)|h
  ·simp[f1] at h
  ·omega
  ·omega
 ·congr 3
  symm
  rw[decide_eq_false_iff_not]
  rintro ⟨f1,f2,f3,f4,f5⟩
  obtain ⟨h2,h3⟩:=h2
  obtain ⟨g1,g2⟩:=f4 h2
  rw[g1,g2] at h3
  simp at h3
 all_goals
  have hk:k.hd.right∧k.ext.length%4=0∧k.ext.length/4≤65535∧(k.hd.ext=false→k.prof=0∧k.ext=[]):=by
   obtain ⟨h1,h4⟩:=h
   simp only[not_or,v_bool,decide_eq_false_iff_not,Decidable.not_not] at h1
   refine ⟨h1.1,by omega,by omega,fun he=>?_⟩
   rcases h2 with h2|h2
   ·exact absurd he h2
   ·exact ⟨by omega,List.eq_nil_of_length_eq_zero (by omega)⟩
  obtain ⟨k1,k2,k3,k4⟩:=hk
  have hf:k.fits↔(if k.hd.pad then 1≤k.pad∧k.pad≤255 else k.pad=0):=⟨fun hh=>hh.2.2.2.2,fun hh=>⟨k1,k2,k3,k4,hh⟩⟩
  rw[h3] at hf
  congr 3
  by_cases hq:k.fits
  ·have:=hf.1 hq
   simp only[if_true,Bool.false_eq_true,if_false] at this
   rw[decide_eq_true hq]
   first
   |(rw[if_pos (by omega)];simp;omega)
   |(simp;omega)
  ·have:=mt hf.2 hq
   simp only[if_true,Bool.false_eq_true,if_false] at this
   rw[decide_eq_false hq]
   first
   |(split<;>simp<;>omega)
   |(simp;omega)
theorem pc_packet_sum (k:Pk) (hr:k.hd.right) (hb:k.ext.length≤1000000) (hp:k.pay.length≤1000000) (hd:k.pad≤1000000):PC Tryz.prog f_packet_sum [(PkSh,PkC k)] [(I64,.int (k.sum:Int))]:=by
 apply pcv_packet_sum rfl
 simp only[vc_packet_sum,sVC,sEV,sENV,sVAL,sBO,forall_const,ofBytes_length]
 have h1:=pc_head_Size k.hd
 rw[if_pos hr] at h1
 have h3:=hr.2.2
 refine ⟨_,h1,?_⟩
 simp only[v_int]
 refine ⟨by omega,by omega,fun _=>by omega,fun _=>by omega,?_⟩
 unfold Pk.sum
 cases k.hd.ext<;>simp<;>omega
theorem pc_packet_Right (k:Pk) (hb:k.ext.length≤1000000) (hp:k.pay.length≤1000000) (hd:k.pad≤1000000):PC Tryz.prog f_packet_Right [(PkSh,PkC k)] [(.bool,.bool (decide k.right))]:=by
 apply pcv_packet_Right rfl
 simp only[vc_packet_Right,sVC,sEV,sENV,sVAL,sBO,forall_const,ofBytes_length]
 refine ⟨_,pc_packet_fits k hb,?_⟩
 by_cases hf:k.fits
 ·refine ⟨_,fun _=>pc_packet_sum k hf.1 hb hp hd,?_⟩
  unfold Pk.right
  simp only[hf,v_int,true_and,decide_true,if_true,v_bool]
  congr 3
  rw[Bool.eq_iff_iff,decide_eq_true_eq,decide_eq_true_eq]
  omega
 ·refine ⟨.int 0,fun h=>by simp[hf] at h,?_⟩
  unfold Pk.right
  simp[hf]
theorem pc_pad_Add (b:List UInt8) (n:Nat) (h1:1≤n) (h2:n≤255) (hb:b.length≤1000000):PC Tryz.prog f_pad_Add [(Byt,B b),(I64,.int (n:Int))] [(Byt,B (b++trail n)),(I64,.int 0)]:=by
 apply pcv_pad_Add rfl
 simp only[vc_pad_Add,sVC,sEV,sENV,sVAL,sBO,forall_const,ofBytes_length]
 refine ⟨fun h=>by omega,fun _=>⟨by omega,by omega,by omega,by omega,by omega,by omega,by omega,?_⟩⟩
 have e0:((b.length:Int)+n).toNat=b.length+n:=by omega
 have e1:((b.length:Int)+n-1).toNat=b.length+(n-1):=by omega
 have e2:IntKind.u8.wrap (n:Int)=((UInt8.ofNat n).toNat:Int):=by unfold IntKind.wrap;simp[IntKind.bits,IntKind.signed]
 have e3:List.take (b.length+n) (ofBytes b)=ofBytes b:=List.take_of_length_le (by simp)
 rw[e0,e1,e2]
 simp only[Int.toNat_zero,List.drop_zero,e3]
 congr 3
 unfold splice trail
 rw[if_neg (by omega)]
 obtain ⟨m,rfl⟩:∃m,n=m+1:=⟨n-1,by omega⟩
 simp only[Nat.add_sub_cancel,ofBytes_append,List.take_zero,List.nil_append,List.length_replicate,Nat.sub_zero,ofBytes_length,List.take_of_length_le (show (ofBytes b).length≤b.length+(m+1) by simp),Nat.zero_add,List.drop_replicate]
 rw[show b.length+(m+1)-b.length=m+1 by omega,List.set_append_right _ _ (by simp),ofBytes_length,Nat.add_sub_cancel_left]
 rw[←ofBytes_append,←ofBytes_append]
 congr 1
 have e4:ofBytes (List.replicate m 0)=List.replicate m (C.int 0):=by simp[ofBytes]
 rw[e4,List.replicate_succ',List.set_append_right _ _ (by simp),List.length_replicate,Nat.sub_self]
 rfl
end Go.Vc

set_option maxRecDepth 100000
namespace Go.Vc
open Go Go.Proofs Go.Plain
theorem be2 (L:List UInt8) (i:Nat) (h:i+2≤L.length):num L i 2=at_ L i*256+at_ L (i+1):=by
 unfold num
 have e:(L.drop i).take 2=[L.getD i 0,L.getD (i+1) 0]:=by
  rw[drop_at_cons (show i<L.length by omega),drop_at_cons (show i+1<L.length by omega),List.take_succ_cons,List.take_succ_cons,List.take_zero]
  simp[at_]
 rw[e]
 simp[be,at_]
theorem be2_i64 (L:List UInt8) (i:Nat) (h:i+2≤L.length):arith .or .i64 (arith .shl .i64 (IntKind.i64.wrap ((L.getD i 0).toNat:Int)) 8) (IntKind.i64.wrap ((L.getD (i+1) 0).toNat:Int))=(num L i 2:Int):=by
 have h1:=at_lt L i
 have h2:=at_lt L (i+1)
 rw[be2 L i h]
 show arith .or .i64 (arith .shl .i64 (IntKind.i64.wrap (at_ L i:Int)) 8) (IntKind.i64.wrap (at_ L (i+1):Int))=_
 have w:∀n:Nat,n<256→IntKind.i64.wrap (n:Int)=(n:Int):=fun n hn=>by unfold IntKind.wrap;simp[IntKind.bits,IntKind.signed];omega
 have w2:∀n:Nat,n<65536→IntKind.i64.wrap (n:Int)=(n:Int):=fun n hn=>by unfold IntKind.wrap;simp[IntKind.bits,IntKind.signed];omega
 rw[w _ h1,w _ h2,arith_shl]
 have e1:(at_ L i:Int)*2^(min (8:Int).toNat IntKind.i64.bits)=((at_ L i*256:Nat):Int):=by simp[IntKind.bits]
 rw[e1,w2 _ (by omega),arith_orH (by simp[IntKind.bits];omega) (by simp[IntKind.bits];omega)]
 rw[show at_ L i*256=at_ L i*2^8 by rfl,or_add _ 8 _ (by omega)]
theorem be2_u16 (L:List UInt8) (i:Nat) (h:i+2≤L.length):arith .or .u16 (arith .shl .u16 (IntKind.u16.wrap ((L.getD i 0).toNat:Int)) 8) (IntKind.u16.wrap ((L.getD (i+1) 0).toNat:Int))=(num L i 2:Int):=by
 have h1:=at_lt L i
 have h2:=at_lt L (i+1)
 rw[be2 L i h]
 show arith .or .u16 (arith .shl .u16 (IntKind.u16.wrap (at_ L i:Int)) 8) (IntKind.u16.wrap (at_ L (i+1):Int))=_
 have w2:∀n:Nat,n<65536→IntKind.u16.wrap (n:Int)=(n:Int):=fun n hn=>by unfold IntKind.wrap;simp[IntKind.bits,IntKind.signed];omega
 rw[w2 _ (by omega),w2 _ (by omega),arith_shl]
 have e1:(at_ L i:Int)*2^(min (8:Int).toNat IntKind.u16.bits)=((at_ L i*256:Nat):Int):=by simp[IntKind.bits]
 rw[e1,w2 _ (by omega),arith_orU rfl (by show _<2^16;omega) (by show _<2^16;omega)]
 rw[show at_ L i*256=at_ L i*2^8 by rfl,or_add _ 8 _ (by omega)]
theorem num_drop (b:List UInt8) (p i n:Nat):num (b.drop p) i n=num b (p+i) n:=by unfold num;rw[List.drop_drop]
theorem pk_bad {b:List UInt8} {e:Int} (he:pkE b=e) (h:e≠0):PkC (pkOf b)= .ls [.ls [.bool false,.bool false,.bool false,.int 0,.int 0,.int 0,.int 0,.ls []],.int 0,.ls [],.ls [],.int 0]∧pkT b=[]:=by
 unfold pkOf pkT
 rw[he,if_neg h,if_neg h]
 exact ⟨rfl,rfl⟩
theorem pk_good {b:List UInt8} (he:pkE b=0):PkC (pkOf b)= .ls [HdC (Hd.of b),.int ((if (Hd.of b).ext then num b (hdN b) 2 else 0:Nat):Int),B (if (Hd.of b).ext then (b.drop (hdN b+4)).take (4*num b (hdN b+2) 2) else []),B ((pkLeft b).take ((pkLeft b).length-pkPad b)),.int (pkPad b:Int)]∧pkT b=(pkLeft b).drop ((pkLeft b).length-pkPad b):=by
 unfold pkOf pkT
 rw[if_pos he,if_pos he]
 exact ⟨rfl,rfl⟩
theorem pc_packet_open (b:List UInt8) (hb:b.length≤1000000):PC Tryz.prog f_packet_open [(Byt,B b)] [(PkSh,PkC (pkOf b)),(Byt,B (pkT b)),(I64,.int (pkE b))]:=by
 apply pcv_packet_open rfl
 simp only[vc_packet_open,sVC,sEV,sENV,sVAL,sBO,forall_const,ofBytes_length]
 refine ⟨fun h=>?_,fun h=>?_⟩
 ·have e:pkE b=4:=by unfold pkE;rw[if_pos (by omega)]
  obtain ⟨q1,q2⟩:=pk_bad e (by decide)
  rw[q1,q2,e]
  rfl
 ·refine ⟨_,_,_,pc_head_Read b (by omega),fun he=>?_,fun he=>?_⟩
  ·have he:hdE b≠0:=he
   have e:pkE b=hdE b:=by unfold pkE;rw[if_neg (by omega),if_pos he]
   obtain ⟨q1,q2⟩:=pk_bad e he
   rw[q1,q2,e]
   rfl
  ·have he:hdE b=0:=he
   have hz:=hdE_zero.1 he
   have hN:hdN b=12+4*(at_ b 0%16):=by unfold hdN;rw[if_pos he]
   have hH:hdH b=Hd.of b:=by unfold hdH;rw[if_pos he]
   have h65:¬65535<b.length:=by omega
   have hE:pkE b=if (Hd.of b).ext=true∧(b.length<hdN b+4∨b.length<hdN b+4+4*num b (hdN b+2) 2) then 2 else if (Hd.of b).pad=true∧trN (pkLeft b)=0 then 5 else 0:=by
    unfold pkE
    rw[if_neg h65,if_neg (fun h=>h he)]
   rw[hH]
   simp only[v_int,Int.toNat_natCast,ofBytes_take,ofBytes_drop,List.take_length,ofBytes_getD,ofBytes_length,Int.toNat_zero,List.drop_zero,show (1:Int).toNat=1 from rfl,show (2:Int).toNat=2 from rfl,show (3:Int).toNat=3 from rfl,show (4:Int).toNat=4 from rfl]
   have hn0:=num_drop b (hdN b) 0 2
   have hn2:=num_drop b (hdN b) 2 2
   have hdl:(b.drop (hdN b)).length=b.length-hdN b:=by simp
   have hd4:(b.drop (hdN b)).drop 4=b.drop (hdN b+4):=by rw[List.drop_drop]
   generalize hL:b.drop (hdN b)=L at hn0 hn2 hdl hd4
   refine ⟨by omega,by omega,by omega,fun hx=>⟨fun hs=>?_,fun hs=>?_⟩,fun hx=>?_⟩
   ·have hx:(Hd.of b).ext=true:=hx
    have e:pkE b=2:=by rw[hE,if_pos ⟨hx,by omega⟩]
    obtain ⟨q1,q2⟩:=pk_bad e (by decide)
    rw[q1,q2,e]
    rfl
   ·have hx:(Hd.of b).ext=true:=hx
    have hw:=be2_i64 L 2 (by omega)
    rw[hw]
    have hlt:=num_lt L 2 2
    rw[hd4]
    generalize hM:b.drop (hdN b+4)=M
    have hMl:M.length=b.length-(hdN b+4):=by rw[←hM];simp
    generalize hwn:num L 2 2=wn at hn2 hlt
    have e4:(4*(wn:Int)).toNat=4*wn:=by omega
    rw[e4]
    refine ⟨by omega,by omega,by omega,by omega,by omega,by omega,by omega,fun hs2=>?_,fun hs2=>?_⟩
    ·have e:pkE b=2:=by rw[hE,if_pos ⟨hx,by omega⟩]
     obtain ⟨q1,q2⟩:=pk_bad e (by decide)
     rw[q1,q2,e]
     rfl
    ·have hno:¬((Hd.of b).ext=true∧(b.length<hdN b+4∨b.length<hdN b+4+4*num b (hdN b+2) 2)):=fun hh=>by
      have:=hh.2
      omega
     have hu:=be2_u16 L 0 (by omega)
     rw[hu,hn0,Nat.add_zero]
     have hT:pkLeft b=M.drop (4*wn):=by unfold pkLeft;rw[if_pos hx,hM,←hn2]
     refine ⟨by omega,by omega,_,pc_packet_part _ (by simp;omega),by omega,by omega,by omega,?_⟩
     generalize hTT:M.drop (4*wn)=T at hT
     have hTl:T.length≤1000000:=by rw[←hTT];simp;omega
     obtain ⟨t1,t2,_⟩:=trN_le T
     refine ⟨fun hp=>⟨_,_,pc_pad_Trail T hTl,fun hy=>?_,fun hy=>?_⟩,fun hp=>?_⟩
     ·have hp:(Hd.of b).pad=true:=hp
      have hy:(if trN T=0 then (5:Int) else 0)≠0:=hy
      have ht:trN T=0:=by
       by_cases h0:trN T=0
       ·exact h0
       ·rw[if_neg h0] at hy;exact absurd rfl hy
      have e:pkE b=5:=by rw[hE,if_neg hno,if_pos ⟨hp,by rw[hT];exact ht⟩]
      obtain ⟨q1,q2⟩:=pk_bad e (by decide)
      rw[q1,q2,e]
      rfl
     ·have hp:(Hd.of b).pad=true:=hp
      have hy:(if trN T=0 then (5:Int) else 0)=0:=hy
      have ht:trN T≠0:=by
       intro h0
       rw[if_pos h0] at hy
       cases hy
      have e:pkE b=0:=by rw[hE,if_neg hno,if_neg (fun hh=>ht (by rw[←hT];exact hh.2))]
      have hpp:pkPad b=trN T:=by unfold pkPad;rw[if_pos hp,hT]
      obtain ⟨q1,q2⟩:=pk_good e
      rw[hpp,hT] at q1 q2
      rw[q1,q2,e,if_pos hx,if_pos hx]
      have e5:((T.length:Int)-(trN T:Int)).toNat=T.length-trN T:=by omega
      simp only[v_int,e5]
      refine ⟨by omega,by omega,by omega,_,pc_packet_part _ (by simp;omega),by omega,by omega,by omega,?_⟩
      rw[hM,←hn2];rfl
     ·have hp:(Hd.of b).pad=false:=hp
      have e:pkE b=0:=by rw[hE,if_neg hno,if_neg (fun hh=>by rw[hp] at hh;cases hh.1)]
      have hpp:pkPad b=0:=by unfold pkPad;rw[if_neg (by rw[hp];decide)]
      obtain ⟨q1,q2⟩:=pk_good e
      rw[hpp,hT] at q1 q2
      rw[q1,q2,e,if_pos hx,if_pos hx]
      have e5:((T.length:Int)-0).toNat=T.length-0:=by omega
      simp only[v_int,e5]
      refine ⟨by omega,by omega,by omega,_,pc_packet_part _ (by simp;omega),by omega,by omega,by omega,?_⟩
      rw[hM,←hn2];rfl
   ·have hx:¬(Hd.of b).ext=true:=fun hh=>by
     have h3:(Hd.of b).ext=false:=hx
     rw[h3] at hh
     cases hh
    have hno:¬((Hd.of b).ext=true∧(b.length<hdN b+4∨b.length<hdN b+4+4*num b (hdN b+2) 2)):=fun hh=>hx hh.1
    have hT:pkLeft b=L:=by unfold pkLeft;rw[if_neg hx,hL]
    clear hd4 hn0 hn2
    revert hT hdl
    generalize L=T
    intro hdl hT
    have hTl:T.length≤1000000:=by omega
    obtain ⟨t1,t2,_⟩:=trN_le T
    refine ⟨fun hp=>⟨_,_,pc_pad_Trail T hTl,fun hy=>?_,fun hy=>?_⟩,fun hp=>?_⟩
    ·have hp:(Hd.of b).pad=true:=hp
     have hy:(if trN T=0 then (5:Int) else 0)≠0:=hy
     have ht:trN T=0:=by
      by_cases h0:trN T=0
      ·exact h0
      ·rw[if_neg h0] at hy;exact absurd rfl hy
     have e:pkE b=5:=by rw[hE,if_neg hno,if_pos ⟨hp,by rw[hT];exact ht⟩]
     obtain ⟨q1,q2⟩:=pk_bad e (by decide)
     rw[q1,q2,e]
     rfl
    ·have hp:(Hd.of b).pad=true:=hp
     have hy:(if trN T=0 then (5:Int) else 0)=0:=hy
     have ht:trN T≠0:=by
      intro h0
      rw[if_pos h0] at hy
      cases hy
     have e:pkE b=0:=by rw[hE,if_neg hno,if_neg (fun hh=>ht (by rw[←hT];exact hh.2))]
     have hpp:pkPad b=trN T:=by unfold pkPad;rw[if_pos hp,hT]
     obtain ⟨q1,q2⟩:=pk_good e
     rw[hpp,hT] at q1 q2
     rw[q1,q2,e,if_neg hx,if_neg hx]
     have e5:((T.length:Int)-(trN T:Int)).toNat=T.length-trN T:=by omega
     simp only[v_int,e5]
     refine ⟨by omega,by omega,by omega,_,pc_packet_part _ (by simp;omega),by omega,by omega,by omega,?_⟩
     rfl
    ·have hp:(Hd.of b).pad=false:=hp
     have e:pkE b=0:=by rw[hE,if_neg hno,if_neg (fun hh=>by rw[hp] at hh;cases hh.1)]
     have hpp:pkPad b=0:=by unfold pkPad;rw[if_neg (by rw[hp];decide)]
     obtain ⟨q1,q2⟩:=pk_good e
     rw[hpp,hT] at q1 q2
     rw[q1,q2,e,if_neg hx,if_neg hx]
     have e5:((T.length:Int)-0).toNat=T.length-0:=by omega
     simp only[v_int,e5]
     refine ⟨by omega,by omega,by omega,_,pc_packet_part _ (by simp;omega),by omega,by omega,by omega,?_⟩
     rfl
theorem pc_packet_Read (b:List UInt8) (hb:b.length≤1000000):PC Tryz.prog f_packet_Read [(Byt,B b)] [(PkSh,PkC (pkOf b)),(I64,.int (pkE b))]:=by
 apply pcv_packet_Read rfl
 simp only[vc_packet_Read,sVC,sEV,sENV,sVAL,sBO,forall_const]
 exact ⟨_,_,_,pc_packet_open b hb,rfl⟩
def pkwE (k:Pk) (room:Int):Int:=if ¬k.right then 1 else if room<k.sum then 7 else 0
def pkwB (k:Pk) (room:Int):List UInt8:=if pkwE k room=0 then k.bytes else []
theorem pkwE_zero {k:Pk} {room:Int}:pkwE k room=0↔k.right∧(k.sum:Int)≤room:=by
 unfold pkwE
 split
 ·rename_i h;simp[h]
 ·rename_i h
  have h:k.right:=Decidable.not_not.1 h
  split
  ·simp;omega
  ·simp[h];omega
theorem shrN (k:IntKind) (n j:Nat) (hj:j≤k.bits):arith .shr k ((n:Nat):Int) ((j:Nat):Int)=((n/2^j:Nat):Int):=by
 rw[arith_shr,Int.toNat_natCast,Nat.min_eq_left hj]
 simp
abbrev SpSh:Sh:= .pair I64 (.pair I64 (.pair I64 .unit))
abbrev SpC (s:Sp):C:= .ls [.int (s.id:Int),.int (s.pos:Int),.int (s.size:Int)]
abbrev Sps (l:List Sp):C:= .ls (l.map SpC)
abbrev If1:Sh:= .ifc 221 .unit
abbrev If2:Sh:= .ifc 222 .unit
theorem two_bytes (kk:IntKind) (h8:8≤kk.bits) (v:Nat): [C.int (IntKind.u8.wrap (arith .shr kk (v:Int) 8)),C.int (IntKind.u8.wrap (v:Int))]=ofBytes (toBE 2 v):=by
 have e:=shrN kk v 8 h8
 rw[show ((8:Nat):Int)=8 from rfl] at e
 rw[e,byte_nat,byte_nat]
 simp[toBE,ofBytes]
theorem pc_packet_Write (k:Pk) (room:Int) (ho:k.ok) (hb:k.ext.length≤1000000) (hp:k.pay.length≤1000000) (hd:k.pad≤1000000):PC Tryz.prog f_packet_Write [(PkSh,PkC k),(I64,.int room)] [(Byt,B (pkwB k room)),(I64,.int (pkwE k room))]:=by
 apply pcv_packet_Write rfl
 simp only[vc_packet_Write,sVC,sEV,sENV,sVAL,sBO,forall_const,ofBytes_length]
 refine ⟨_,pc_packet_Right k hb hp hd,fun hr=>?_,fun hr=>?_⟩
 ·have hr:¬k.right:=by simpa using hr
  have e:pkwE k room=1:=by unfold pkwE;rw[if_pos hr]
  unfold pkwB
  rw[e]
  rfl
 ·have hr:k.right:=by simpa using hr
  have hl:=pkLay_length k (trail k.pad) (trail_ok (by have:=hr.1.2.2.2.2;split at this<;>omega)).1
  have hs:=hr.2
  refine ⟨_,pc_packet_sum k hr.1.1 hb hp hd,fun h=>?_,fun h=>?_⟩
  ·have h:room<(k.sum:Int):=h
   have e:pkwE k room=7:=by unfold pkwE;rw[if_neg (fun hh=>hh hr),if_pos h]
   unfold pkwB
   rw[e]
   rfl
  ·have h:¬room<(k.sum:Int):=by simpa using h
   have e:pkwE k room=0:=pkwE_zero.2 ⟨hr,by omega⟩
   have eb:pkwB k room=k.bytes:=if_pos e
   have hw:=pc_head_Write k.hd ho.1
   have hwB:hwB k.hd=k.hd.bytes:=if_pos hr.1.1
   have hwE:hwE k.hd=0:=if_pos hr.1.1
   rw[hwB,hwE] at hw
   rw[e,eb]
   refine ⟨_,_,hw,fun h2=>absurd rfl h2,fun _=>?_⟩
   obtain ⟨_,rq⟩:=rem4 k.ext.length hb
   rw[rq]
   have hab: [C.int (IntKind.u8.wrap (arith .shr .u16 (k.prof:Int) 8)),C.int (IntKind.u8.wrap (k.prof:Int)),C.int (IntKind.u8.wrap (arith .shr .i64 ((k.ext.length/4:Nat):Int) 8)),C.int (IntKind.u8.wrap ((k.ext.length/4:Nat):Int))]=ofBytes (toBE 2 k.prof++toBE 2 (k.ext.length/4)):=by
    rw[←ofBytes_append,←two_bytes .u16 (by decide),←two_bytes .i64 (by decide)]
    rfl
   rw[hab]
   have hlen:=hl
   unfold pkLay at hlen
   simp only[List.length_append] at hlen
   have htr:∀X:List UInt8,X++(k.pay++trail k.pad)=X++k.pay++trail k.pad:=fun X=>by rw[List.append_assoc]
   have hby:k.bytes=k.hd.bytes++extB k++k.pay++trail k.pad:=by unfold Pk.bytes pkLay;simp only[List.append_assoc]
   have hpad:=hr.1.2.2.2.2
   refine ⟨fun hx=>?_,fun hx=>?_⟩
   ·have hex:extB k=toBE 2 k.prof++(toBE 2 (k.ext.length/4)++k.ext):=if_pos hx
    have j1:=pc_octet_Join [k.hd.bytes,toBE 2 k.prof++toBE 2 (k.ext.length/4),k.ext] (by simp) (by rw[hex] at hlen;simp at hlen ⊢;omega)
    have j2:=pc_octet_Join [k.hd.bytes++extB k,k.pay] (by simp) (by simp;omega)
    have f1: [k.hd.bytes,toBE 2 k.prof++toBE 2 (k.ext.length/4),k.ext].flatten=k.hd.bytes++extB k:=by rw[hex];simp
    have f2: [k.hd.bytes++extB k,k.pay].flatten=k.hd.bytes++extB k++k.pay:=by simp
    rw[f1] at j1
    rw[f2] at j2
    refine ⟨_,j1,_,j2,fun hq=>?_,fun hq=>?_⟩
    ·rw[if_pos hq] at hpad
     exact ⟨_,_,pc_pad_Add _ k.pad hpad.1 hpad.2 (by simp;omega),by rw[hby]⟩
    ·rw[if_neg (by rw[hq];decide)] at hpad
     rw[hby,hpad]
     simp[trail]
   ·have hex:extB k=[]:=if_neg (by rw[hx];decide)
    have j2:=pc_octet_Join [k.hd.bytes,k.pay] (by simp) (by simp;omega)
    have f2: [k.hd.bytes,k.pay].flatten=k.hd.bytes++extB k++k.pay:=by rw[hex];simp
    rw[f2] at j2
    refine ⟨_,j2,fun hq=>?_,fun hq=>?_⟩
    ·rw[if_pos hq] at hpad
     exact ⟨_,_,pc_pad_Add _ k.pad hpad.1 hpad.2 (by simp;omega),by rw[hby]⟩
    ·rw[if_neg (by rw[hq];decide)] at hpad
     rw[hby,hpad]
     simp[trail]
end Go.Vc

set_option maxRecDepth 100000
namespace Go.Vc
open Go Go.Proofs Go.Plain
abbrev PcSh:Sh:= .pair I64 (.pair I64 (.pair I64 .unit))
abbrev PcC (x:Plc):C:= .ls [.int x.f,.int (x.p:Int),.int (x.s:Int)]
abbrev Pcs (l:List Plc):C:= .ls (l.map PcC)
theorem pc_last (l:List Plc) (h:l.length≠0):(l.map PcC).getD ((l.length:Int)-1).toNat default=PcC (l.getLast (by intro e;rw[e] at h;exact h rfl))∧endOf l=(l.getLast (by intro e;rw[e] at h;exact h rfl)).p+(l.getLast (by intro e;rw[e] at h;exact h rfl)).s:=by
 have hne:l≠[]:=by intro e;rw[e] at h;exact h rfl
 constructor
 ·rw[show ((l.length:Int)-1).toNat=l.length-1 by omega,List.getLast_eq_getElem]
  simp[List.getD,show l.length-1<l.length by omega]
 ·unfold endOf
  rw[List.getLast?_eq_some_getLast hne]
theorem pg_place_lay (l:List Plc) (f:Int) (n:Nat) (hl:l.length≤1000) (he:endOf l≤1000000) (hn:n≤1000000):PC Tryz.prog g_place_lay [(.sl PcSh,Pcs l),(I64,.int f),(.sl I64,.ls [.int (n:Int)])] [(.sl PcSh,Pcs (layL l f n))]:=by
 apply pcg_place_lay rfl
 simp only[vg_place_lay,sVC,sEV,sENV,sVAL,sBO,forall_const,List.length_map,List.length_cons,List.length_nil]
 refine ⟨fun h=>?_,fun h=>?_⟩
 ·obtain ⟨g1,g2⟩:=pc_last l (by omega)
  rw[g1]
  refine ⟨by omega,by omega,by omega,by simp only[v_hd,v_tl,v_int];omega,?_⟩
  refine VC.go_loop (fun i:Nat=> [Pcs (if i=0 then l else layL l f n),.int ((if i=0 then endOf l else endOf l+n:Nat):Int),.int (i:Int)]) (fun i=>i≤1) (fun i=>1-i) 0 ?_ (Nat.zero_le _) fun i hi=>?_
  ·simp only[sEV,sENV,sVAL,sBO,forall_const,List.length_map,g1,if_true,g2]
   rw[←Int.natCast_add]
   rfl
  ·simp only[sVC,sEV,sENV,sVAL,sBO,forall_const,List.length_map,List.length_cons,List.length_nil]
   refine ⟨fun hc=>?_,fun hc=>?_⟩
   ·have h0:i=0:=by omega
    subst h0
    have e0:List.getD [C.int (n:Int)] (((0:Nat):Int)).toNat default= .int (n:Int):=rfl
    simp only[if_true,e0,v_int]
    refine ⟨by omega,by omega,fun h2=>⟨by omega,by omega,by omega,1,?_,by omega,by omega⟩,fun h2=>⟨by omega,1,?_,by omega,by omega⟩⟩
    ·unfold layL
     rw[if_neg (by omega),if_neg (by omega),if_neg (by omega)]
     simp
    ·have:n=0:=by omega
     subst this
     rfl
   ·have h1:i=1:=by omega
    subst h1
    rfl
 ·have hl0:l=[]:=List.eq_nil_of_length_eq_zero (by omega)
  subst hl0
  refine VC.go_loop (fun i:Nat=> [Pcs (if i=0 then [] else layL [] f n),.int ((if i=0 then endOf [] else endOf []+n:Nat):Int),.int (i:Int)]) (fun i=>i≤1) (fun i=>1-i) 0 ?_ (Nat.zero_le _) fun i hi=>?_
  ·rfl
  ·simp only[sVC,sEV,sENV,sVAL,sBO,forall_const,List.length_map,List.length_cons,List.length_nil]
   refine ⟨fun hc=>?_,fun hc=>?_⟩
   ·have h0:i=0:=by omega
    subst h0
    have e0:List.getD [C.int (n:Int)] (((0:Nat):Int)).toNat default= .int (n:Int):=rfl
    simp only[if_true,e0,v_int]
    refine ⟨by omega,by omega,fun h2=>⟨by omega,by omega,by omega,1,?_,by omega,by omega⟩,fun h2=>⟨by omega,1,?_,by omega,by omega⟩⟩
    ·unfold layL
     rw[if_neg (by omega),if_neg (by omega),if_neg (by omega)]
     simp
    ·have:n=0:=by omega
     subst this
     rfl
   ·have h1:i=1:=by omega
    subst h1
    rfl
theorem pc_place_Find (l:List Plc) (f:Int) (hl:l.length≤100000):PC Tryz.prog f_place_Find [(.sl PcSh,Pcs l),(I64,.int f),(I64,.int 0)] [(PcSh,PcC ((findP l f).getD Plc.zero)),(I64,.int (if (findP l f).isSome then 0 else 8))]:=by
 apply pcv_place_Find rfl
 simp only[vc_place_Find,sVC,sEV,sENV,sVAL,sBO,forall_const,List.length_map]
 refine ⟨fun h=>by omega,fun _=>?_⟩
 refine VC.go_loop (fun i:Nat=> [.int 0,.int 0,.int (i:Int),.int 0,.int 0,.int 0]) (fun i=>i≤l.length∧findP l f=findP (l.drop i) f) (fun i=>l.length-i) 0 rfl ⟨Nat.zero_le _,rfl⟩ fun i hi=>?_
 obtain ⟨i1,i2⟩:=hi
 simp only[sVC,sEV,sENV,sVAL,sBO,forall_const,List.length_map]
 refine ⟨fun hc=>?_,fun hc=>?_⟩
 ·have hk:i<l.length:=by omega
  have hg:(l.map PcC).getD (i:Int).toNat default=PcC l[i]:=by simp[List.getD,hk]
  have hd:l.drop i=l[i]::l.drop (i+1):=List.drop_eq_getElem_cons hk
  rw[hg]
  rw[hd] at i2
  unfold findP at i2
  rw[List.find?_cons] at i2
  refine ⟨by omega,by omega,fun h=>⟨by omega,i+1,by simp,⟨by omega,?_⟩,by omega⟩,fun h=>⟨?_,fun h=>absurd trivial h⟩⟩
  ·have h:l[i].f≠f:=h
   rw[decide_eq_false h] at i2
   exact i2
  ·have h:l[i].f=f:=h
   rw[decide_eq_true h] at i2
   have i2:findP l f=some l[i]:=i2
   rw[i2]
   rfl
 ·have:i=l.length:=by omega
  subst this
  rw[List.drop_length] at i2
  rw[i2]
  rfl
theorem lay_ok {l:List Plc} {a c:Nat} (h:l.length≤a∧endOf l≤c) (f:Int) (n:Nat):(layL l f n).length≤a+1∧endOf (layL l f n)≤c+n:=by
 have:=layL_len l f n
 rw[endOf_lay]
 omega
theorem pc_place_Of (b:List UInt8) (hb:b.length≤1000000):PC Tryz.prog f_place_Of [(Byt,B b)] [(.sl PcSh,Pcs (if pkE b=0 then placesOf (pkRaw b) else [])),(I64,.int (pkE b))]:=by
 apply pcv_place_Of rfl
 simp only[vc_place_Of,sVC,sEV,sENV,sVAL,sBO,forall_const]
 refine ⟨_,_,pc_packet_Read b hb,fun he=>?_,fun he=>?_⟩
 ·have he:pkE b≠0:=he
  rw[if_neg he]
  rfl
 ·have he:pkE b=0:=he
  rw[if_pos he]
  have hk:pkOf b=pkRaw b:=if_pos he
  obtain ⟨hr,ho,_⟩:=Pk.same b he
  rw[hk]
  generalize pkRaw b=k at hr ho
  obtain ⟨⟨⟨_,_,r3⟩,f2,f3,f4,f5⟩,f6⟩:=hr
  unfold Pk.sum at f6
  have z0:([]:List Plc).length=0:=rfl
  have zz:endOf []=0:=rfl
  refine ⟨_,pg_place_lay [] 1 1 (by decide) (by decide) (by decide),_,pg_place_lay _ 2 1 (by decide) (by decide) (by decide),_,pg_place_lay _ 3 2 (by decide) (by decide) (by decide),_,pg_place_lay _ 4 4 (by decide) (by decide) (by decide),_,pg_place_lay _ 5 4 (by decide) (by decide) (by decide),?_⟩
  refine VC.go_loop (fun i:Nat=> [Pcs (layC i lay5),.int (i:Int)]) (fun i=>i≤k.hd.csrc.length) (fun i=>k.hd.csrc.length-i) 0 rfl (Nat.zero_le _) fun i hi=>?_
  obtain ⟨c1,c2,_⟩:=layC_facts i lay5
  have e5:endOf lay5=12:=rfl
  have n5:lay5.length=5:=rfl
  rw[e5] at c1
  rw[n5] at c2
  have hns:∀l:List Nat,(Ns l).toList.length=l.length:=fun l=>by simp[Ns]
  simp only[sVC,sEV,sENV,sVAL,sBO,forall_const,hns,List.length_map,ofBytes_length]
  refine ⟨fun hc=>?_,fun hc=>?_⟩
  ·exact ⟨_,pg_place_lay _ 6 4 (by omega) (by omega) (by decide),by omega,i+1,rfl,by omega,by omega⟩
  ·have hi2:i=k.hd.csrc.length:=by omega
   subst hi2
   have a0:(layC k.hd.csrc.length lay5).length≤100∧endOf (layC k.hd.csrc.length lay5)≤100:=by omega
   refine ⟨fun hx=>?_,fun hx=>?_⟩
   ·rw[if_pos hx] at f6
    have hX:layX k (layC k.hd.csrc.length lay5)=layL (layL (layL (layC k.hd.csrc.length lay5) 7 2) 8 2) 9 k.ext.length:=if_pos hx
    have a1:=lay_ok a0 7 2
    have a2:=lay_ok a1 8 2
    have a3:=lay_ok a2 9 k.ext.length
    have a4:=lay_ok a3 10 k.pay.length
    have hP:placesOf k=layP k (layL (layX k (layC k.hd.csrc.length lay5)) 10 k.pay.length):=rfl
    rw[hX] at hP
    refine ⟨_,pg_place_lay _ 7 2 (by omega) (by omega) (by decide),_,pg_place_lay _ 8 2 (by omega) (by omega) (by decide),_,pg_place_lay _ 9 k.ext.length (by omega) (by omega) (by omega),_,pg_place_lay _ 10 k.pay.length (by omega) (by omega) (by omega),fun hp=>?_,fun hp=>?_⟩
    ·rw[if_pos hp] at f5
     have ep:(k.pad:Int)-1=((k.pad-1:Nat):Int):=by omega
     have a5:=lay_ok a4 11 (k.pad-1)
     rw[ep]
     refine ⟨by omega,_,pg_place_lay _ 11 (k.pad-1) (by omega) (by omega) (by omega),_,pg_place_lay _ 12 1 (by omega) (by omega) (by decide),?_⟩
     rw[hP,he]
     unfold layP
     rw[if_pos hp]
    ·rw[hP,he]
     unfold layP
     rw[if_neg (by rw[hp];decide)]
   ·have hX:layX k (layC k.hd.csrc.length lay5)=layC k.hd.csrc.length lay5:=if_neg (by rw[hx];decide)
    have a4:=lay_ok a0 10 k.pay.length
    have hP:placesOf k=layP k (layL (layX k (layC k.hd.csrc.length lay5)) 10 k.pay.length):=rfl
    rw[hX] at hP
    refine ⟨_,pg_place_lay _ 10 k.pay.length (by omega) (by omega) (by omega),fun hp=>?_,fun hp=>?_⟩
    ·rw[if_pos hp] at f5
     have ep:(k.pad:Int)-1=((k.pad-1:Nat):Int):=by omega
     have a5:=lay_ok a4 11 (k.pad-1)
     rw[ep]
     refine ⟨by omega,_,pg_place_lay _ 11 (k.pad-1) (by omega) (by omega) (by omega),_,pg_place_lay _ 12 1 (by omega) (by omega) (by decide),?_⟩
     rw[hP,he]
     unfold layP
     rw[if_pos hp]
    ·rw[hP,he]
     unfold layP
     rw[if_neg (by rw[hp];decide)]
end Go.Vc

set_option maxRecDepth 100000
namespace Go.Vc
open Go Go.Proofs Go.Plain
theorem mod4 (n:Nat) (h:n<9223372036854775807):arith .rem .i64 (n:Int) 4=((n%4:Nat):Int):=by
 rw[arith_rem _ _ _ (by omega)]
 omega
theorem nib_hi (x:Nat) (h:x<256):arith .shr .u8 (x:Int) 4=((x/16:Nat):Int):=shrN .u8 x 4 (by decide)
theorem nib_lo (x:Nat) (h:x<256):arith .and .u8 (x:Int) 15=((x%16:Nat):Int):=by
 have:=arith_andU (k:= .u8) rfl (a:=x) (b:=15) h (by decide)
 rw[show ((15:Nat):Int)=15 from rfl] at this
 rw[this,Nat.and_two_pow_sub_one_eq_mod x 4]
theorem pc_single_ends (x:Nat) (h:x<256):PC Tryz.prog f__elem_single__ends [(.unit,.ls []),(U8,.int (x:Int))] [(.bool,.bool (decide (x/16=15∨x/16=0)))]:=by
 apply pcv__elem_single__ends rfl
 simp only[vc__elem_single__ends,sVC,sEV,sENV,sVAL,sBO,forall_const,nib_hi x h]
 have e:(if (decide (((x/16:Nat):Int)=15))=true then true else decide (((x/16:Nat):Int)=0))=decide (x/16=15∨x/16=0):=by
  rw[Bool.eq_iff_iff]
  by_cases h1:x/16=15
  ·simp[h1]
  ·have e1:¬((x/16:Nat):Int)=15:=by omega
   rw[if_neg (by simpa using e1)]
   simp only[decide_eq_true_eq,h1,false_or]
   omega
 first
  |(rw[←e];simp)
  |(simp only[decide_eq_true_eq] at e ⊢;rw[e])
theorem pc_double_ends (x:Nat):PC Tryz.prog f__elem_double__ends [(.unit,.ls []),(U8,.int (x:Int))] [(.bool,.bool false)]:=by
 apply pcv__elem_double__ends rfl
 simp only[vc__elem_double__ends,sVC,sEV,sENV,sVAL,sBO,forall_const]
theorem pc_single_begin (b:List UInt8) (h:0<b.length):PC Tryz.prog f__elem_single__begin [(.unit,.ls []),(Byt,B b)] [(SpSh,.ls [.int ((at_ b 0/16:Nat):Int),.int 1,.int ((at_ b 0%16+1:Nat):Int)]),(.bool,.bool true)]:=by
 have hx:=at_lt b 0
 apply pcv__elem_single__begin rfl
 simp only[vc__elem_single__begin,sVC,sEV,sENV,sVAL,sBO,forall_const,ofBytes_length,ofBytes_getD,Int.toNat_zero,atD,nib_hi _ hx,nib_lo _ hx]
 rw[wrapi64_in (by omega),wrapi64_in (by omega)]
 refine ⟨by omega,by omega,by omega,?_⟩
 simp
theorem pc_double_begin (b:List UInt8) (h:2≤b.length):PC Tryz.prog f__elem_double__begin [(.unit,.ls []),(Byt,B b)] [(SpSh,.ls [.int ((at_ b 0:Nat):Int),.int 2,.int ((at_ b 1:Nat):Int)]),(.bool,.bool true)]:=by
 have hx:=at_lt b 0
 have hy:=at_lt b 1
 apply pcv__elem_double__begin rfl
 simp only[vc__elem_double__begin,sVC,sEV,sENV,sVAL,sBO,forall_const,ofBytes_length,ofBytes_getD,Int.toNat_zero,Int.toNat_one,atD]
 rw[wrapi64_in (by omega),wrapi64_in (by omega)]
 refine ⟨fun hc=>by omega,fun _=>⟨by omega,by omega,rfl⟩⟩
theorem pc_double_short (b:List UInt8) (h:b.length<2):PC Tryz.prog f__elem_double__begin [(.unit,.ls []),(Byt,B b)] [(SpSh,.ls [.int 0,.int 0,.int 0]),(.bool,.bool false)]:=by
 apply pcv__elem_double__begin rfl
 simp only[vc__elem_double__begin,sVC,sEV,sENV,sVAL,sBO,forall_const,ofBytes_length]
 refine ⟨fun hc=>trivial,fun hc=>by omega⟩
theorem cutB (b:List UInt8) (k:Nat):B (b.drop k)=C.ls (List.drop k (List.take b.length (ofBytes b))):=by
 rw[List.take_of_length_le (by simp),ofBytes_drop]
theorem sps_snoc (l:List Sp) (s:Sp):l.map SpC++ [SpC s]=(l++ [s]).map SpC:=by simp
structure WkSt where
 p:Nat
 out:List Sp
 m:List C
def WkSt.enc (s:WkSt):List C:=[.ls [],.int 0,Sps s.out,.int (s.p:Int),.ls s.m]
def WkSt.inv (nar:Bool) (b:List UInt8) (s:WkSt):Prop:=s.p≤b.length∧wk nar b 0 []=wk nar b s.p s.out∧(∀x:Nat,mtrue s.m x=decide (x∈spIds s.out))∧s.out.length≤s.p
theorem WkSt.next {nar:Bool} {b:List UInt8} {s:WkSt} (h:s.inv nar b) (h0:s.p<b.length) (h1:¬at_ b s.p=0) (h2:¬(nar=true∧(at_ b s.p/16=15∨at_ b s.p/16=0))) (h3:¬(nar=false∧b.length≤s.p+1))
  (h4:¬b.length<(spAt nar b s.p).pos+(spAt nar b s.p).size) (h5:¬(spAt nar b s.p).id∈spIds s.out):
  (WkSt.mk ((spAt nar b s.p).pos+(spAt nar b s.p).size) (s.out++ [spAt nar b s.p]) (mset s.m (spAt nar b s.p).id (.bool true))).inv nar b∧b.length-((spAt nar b s.p).pos+(spAt nar b s.p).size)<b.length-s.p:=by
 obtain ⟨i1,i2,i3,i4⟩:=h
 have hfar:=spAt_far nar b s.p
 refine ⟨⟨by simp only;omega,?_,fun x=>?_,?_⟩,by omega⟩
 ·rw[i2,wk_step h0 h1 h2 h3 h4 h5]
 ·simp only
  rw[mtrue_mset,i3]
  by_cases hx:((spAt nar b s.p).id:Int)=x
  ·have:(spAt nar b s.p).id=x:=by omega
   rw[if_pos hx]
   simp[spIds,this]
  ·have:¬x=(spAt nar b s.p).id:=by omega
   rw[if_neg hx]
   simp[spIds,this]
 ·simp only[List.length_append,List.length_singleton]
  omega
theorem pc_elem_walk1 (b:List UInt8) (hb:b.length≤1000000) (c0:C) (hc0:c0= .ls []):PC Tryz.prog f_elem_walk1 [(If1,c0),(Byt,B b)] [(.sl SpSh,Sps (wk true b 0 []).1),(I64,.int (wk true b 0 []).2)]:=by
 subst hc0
 apply pcv_elem_walk1 rfl
 simp only[vc_elem_walk1,sVC,sEV,sENV,sVAL,sBO,forall_const,ofBytes_length]
 refine VC.go_loop WkSt.enc (WkSt.inv true b) (fun s=>b.length-s.p) ⟨0,[],[]⟩ (by simp[WkSt.enc,E.eval]) ⟨Nat.zero_le _,rfl,fun x=>by simp[mtrue_nil,spIds],Nat.le_refl _⟩ fun s hs=>?_
 obtain ⟨i1,i2,i3,i4⟩:=id hs
 have hx:=at_lt b s.p
 simp only[WkSt.enc,sVC,sEV,sENV,sVAL,sBO,forall_const,ofBytes_length,ofBytes_getD,Int.toNat_natCast,atD]
 refine ⟨fun hc=>⟨by omega,by omega,fun hz=>?_,fun hz=>?_⟩,fun hc=>?_⟩
 ·refine ⟨by omega,⟨s.p+1,s.out,s.m⟩,by simp,⟨by simp only;omega,?_,i3,by simp only;omega⟩,by simp only;omega⟩
  rw[i2,wk_zero (by omega) (by omega)]
 ·refine ⟨by omega,by omega,_,pc_single_ends _ hx,?_⟩
  simp only[sEV,sENV,sVAL,sBO,forall_const]
  refine ⟨fun he=>?_,fun he=>?_⟩
  ·rw[i2,wk_stop (by omega) (by omega) ⟨rfl,he⟩]
  ·have hbd:=pc_single_begin (b.drop s.p) (by rw[List.length_drop];omega)
   rw[at_drop,Nat.add_zero,cutB] at hbd
   refine ⟨by omega,by omega,by omega,_,_,hbd,?_⟩
   simp only[sEV,sENV,sVAL,sBO,forall_const]
   refine ⟨fun hf=>by simp at hf,by omega,by omega,fun hl=>?_,fun hl=>⟨fun ht=>?_,fun ht=>?_⟩⟩
   ·rw[i2,wk_long (by omega) (by omega) (by simp;omega) (by simp) (by simp[spAt];omega)]
    rfl
   ·have ht:mtrue s.m ((at_ b s.p/16:Nat):Int)=true:=ht
    rw[i3] at ht
    rw[i2,wk_twice (by omega) (by omega) (by simp;omega) (by simp) (by simp[spAt];omega) (by simpa [spAt] using ht)]
    rfl
   ·have ht:mtrue s.m ((at_ b s.p/16:Nat):Int)=false:=ht
    rw[i3] at ht
    obtain ⟨n1,n2⟩:=WkSt.next (nar:=true) hs (by omega) (by omega) (by simp;omega) (by simp) (by simp[spAt];omega) (by simpa [spAt] using ht)
    refine ⟨?_,by omega,_,?_,n1,n2⟩
    ·simp only[List.length_map,List.length_cons,List.length_nil];omega
    ·simp only[WkSt.enc,spAt,if_true,←sps_snoc]
     rw[show (1+(s.p:Int))=((s.p+1:Nat):Int) by omega,←Int.natCast_add]
     simp only[Sps,List.map_append,List.map_cons,List.map_nil]
 ·rw[i2,wk_end (by omega)]
theorem pc_elem_walk2 (b:List UInt8) (hb:b.length≤1000000) (c0:C) (hc0:c0= .ls []):PC Tryz.prog f_elem_walk2 [(If2,c0),(Byt,B b)] [(.sl SpSh,Sps (wk false b 0 []).1),(I64,.int (wk false b 0 []).2)]:=by
 subst hc0
 apply pcv_elem_walk2 rfl
 simp only[vc_elem_walk2,sVC,sEV,sENV,sVAL,sBO,forall_const,ofBytes_length]
 refine VC.go_loop WkSt.enc (WkSt.inv false b) (fun s=>b.length-s.p) ⟨0,[],[]⟩ (by simp[WkSt.enc,E.eval]) ⟨Nat.zero_le _,rfl,fun x=>by simp[mtrue_nil,spIds],Nat.le_refl _⟩ fun s hs=>?_
 obtain ⟨i1,i2,i3,i4⟩:=id hs
 have hx:=at_lt b s.p
 have hy:=at_lt b (s.p+1)
 simp only[WkSt.enc,sVC,sEV,sENV,sVAL,sBO,forall_const,ofBytes_length,ofBytes_getD,Int.toNat_natCast,atD]
 refine ⟨fun hc=>⟨by omega,by omega,fun hz=>?_,fun hz=>?_⟩,fun hc=>?_⟩
 ·refine ⟨by omega,⟨s.p+1,s.out,s.m⟩,by simp,⟨by simp only;omega,?_,i3,by simp only;omega⟩,by simp only;omega⟩
  rw[i2,wk_zero (by omega) (by omega)]
 ·refine ⟨by omega,by omega,_,pc_double_ends _,?_⟩
  simp only[sEV,sENV,sVAL,sBO,forall_const]
  by_cases h1:b.length≤s.p+1
  ·have hbd:=pc_double_short (b.drop s.p) (by rw[List.length_drop];omega)
   rw[cutB] at hbd
   refine ⟨fun he=>by simp at he,by omega,by omega,by omega,_,_,hbd,?_⟩
   simp only[sEV,sENV,sVAL,sBO,forall_const]
   refine ⟨?_,fun hf=>by simp at hf⟩
   rw[i2,wk_short (by omega) (by omega) (by simp) ⟨rfl,h1⟩]
   rfl
  ·have hbd:=pc_double_begin (b.drop s.p) (by rw[List.length_drop];omega)
   rw[at_drop,at_drop,Nat.add_zero,cutB] at hbd
   refine ⟨fun he=>by simp at he,by omega,by omega,by omega,_,_,hbd,?_⟩
   simp only[sEV,sENV,sVAL,sBO,forall_const]
   refine ⟨fun hf=>by simp at hf,by omega,by omega,fun hl=>?_,fun hl=>⟨fun ht=>?_,fun ht=>?_⟩⟩
   ·rw[i2,wk_long (by omega) (by omega) (by simp) (by simp;omega) (by simp[spAt];omega)]
    rfl
   ·have ht:mtrue s.m ((at_ b s.p:Nat):Int)=true:=ht
    rw[i3] at ht
    rw[i2,wk_twice (by omega) (by omega) (by simp) (by simp;omega) (by simp[spAt];omega) (by simpa [spAt] using ht)]
    rfl
   ·have ht:mtrue s.m ((at_ b s.p:Nat):Int)=false:=ht
    rw[i3] at ht
    obtain ⟨n1,n2⟩:=WkSt.next (nar:=false) hs (by omega) (by omega) (by simp) (by simp;omega) (by simp[spAt];omega) (by simpa [spAt] using ht)
    refine ⟨?_,by omega,_,?_,n1,n2⟩
    ·simp only[List.length_map,List.length_cons,List.length_nil];omega
    ·simp only[WkSt.enc,spAt,Bool.false_eq_true,if_false,←sps_snoc]
     rw[show (2+(s.p:Int))=((s.p+2:Nat):Int) by omega,←Int.natCast_add]
     simp only[Sps,List.map_append,List.map_cons,List.map_nil]
 ·rw[i2,wk_end (by omega)]
theorem and65520 (q:Nat) (h:q<65536):arith .and .u16 (q:Int) 65520=((q/16*16:Nat):Int):=by
 have:=arith_andU (k:= .u16) rfl (a:=q) (b:=65520) h (by decide)
 rw[show ((65520:Nat):Int)=65520 from rfl] at this
 rw[this]
 congr 1
 have e:q/16*16=(q>>>4)<<<4:=by rw[Nat.shiftRight_eq_div_pow,Nat.shiftLeft_eq]
 rw[e]
 apply Nat.eq_of_testBit_eq
 intro i
 rw[Nat.testBit_and,Nat.testBit_shiftLeft,Nat.testBit_shiftRight]
 by_cases hi:i<16
 ·have h65:∀i:Fin 16,(65520:Nat).testBit i.1=decide (i.1≥4):=by decide
  rw[h65 ⟨i,hi⟩]
  by_cases h4:i≥4
  ·simp[h4,show 4+(i-4)=i by omega]
  ·simp[h4]
 ·have h1:q.testBit i=false:=Nat.testBit_lt_two_pow (Nat.lt_of_lt_of_le h (Nat.pow_le_pow_right (n:=2) (by decide) (show 16≤i by omega)))
  have h2:q.testBit (4+(i-4))=false:=by rw[show 4+(i-4)=i by omega];exact h1
  rw[h1,h2]
  simp
theorem pc_elem_Spots (q:Nat) (hq:q<65536) (b:List UInt8) (hb:b.length≤1000000):PC Tryz.prog f_elem_Spots [(U16,.int (q:Int)),(Byt,B b)] [(.sl SpSh,Sps (spots q b).1),(I64,.int (spots q b).2)]:=by
 apply pcv_elem_Spots rfl
 simp only[vc_elem_Spots,sVC,sEV,sENV,sVAL,sBO,forall_const,and65520 q hq]
 unfold spots
 refine ⟨fun h1=>⟨_,_,pc_elem_walk1 b hb _ rfl,?_⟩,fun h1=>⟨fun h2=>⟨_,_,pc_elem_walk2 b hb _ rfl,?_⟩,fun h2=>?_⟩⟩
 ·rw[if_pos (by omega)]
 ·rw[if_neg (by omega),if_pos (by omega)]
 ·rw[if_neg (by omega),if_neg (by omega)]
  rfl
theorem sp_getD (l:List Sp) (i:Nat) (h:i<l.length):(l.map SpC).getD ((i:Int)).toNat default=SpC (l.getD i Sp.zero):=by simp[List.getD,h]
theorem sp_take (l:List Sp) (i:Nat) (h:i<l.length):l.take (i+1)=l.take i++ [l.getD i Sp.zero]:=by rw[List.take_succ_eq_append_getElem h];simp[List.getD,h]
theorem sp_mem {l:List Sp} {i:Nat} (h:i<l.length):l.getD i Sp.zero∈l:=by simp[List.getD,h]
theorem pad4 (n:Nat) (h:n≤100000000):arith .rem .i64 (4-((n%4:Nat):Int)) 4=(((4-n%4)%4:Nat):Int):=by
 rw[arith_rem _ _ _ (by omega)];omega
theorem pc_pad_Fill (b:List UInt8) (hb:b.length≤100000000):PC Tryz.prog f_pad_Fill [(Byt,B b)] [(Byt,B (fill4 b))]:=by
 apply pcv_pad_Fill rfl
 simp only[vc_pad_Fill,sVC,sEV,sENV,sVAL,sBO,forall_const,ofBytes_length,mod4 _ (show b.length<9223372036854775807 by omega),pad4 _ hb]
 refine ⟨by omega,by omega,by omega,by omega,by omega,?_⟩
 rw[←Int.natCast_add,Int.toNat_natCast]
 congr 3
 rw[ofBytes_rep,List.take_of_length_le (by simp),Int.toNat_zero]
 have e:List.drop 0 (ofBytes b)=ofBytes b:=rfl
 rw[e,ofBytes_splice]
 congr 1
 unfold fill4 splice
 simp only[List.take_zero,List.nil_append,List.length_replicate,Nat.sub_zero,Nat.zero_add,List.drop_replicate]
 rw[List.take_of_length_le (by omega),Nat.add_sub_cancel_left]
theorem pc_elem_narrow (l:List El) (hl:l.length≤1000000):PC Tryz.prog f_elem_narrow [(.sl ElSh,Els l)] [(.bool,.bool (elNarrow l))]:=by
 apply pcv_elem_narrow rfl
 simp only[vc_elem_narrow,sVC,sEV,sENV,sVAL,sBO,forall_const,List.length_map]
 refine VC.go_loop (fun i:Nat=> [.bool false,.int (i:Int)]) (fun i=>i≤l.length∧∀e∈l.take i,elFits true e) (fun i=>l.length-i) 0 rfl ⟨Nat.zero_le _,by simp⟩ fun i hi=>?_
 obtain ⟨i1,i2⟩:=hi
 simp only[sVC,sEV,sENV,sVAL,sBO,forall_const,List.length_map]
 refine ⟨fun hc=>?_,fun hc=>?_⟩
 ·have hk:i<l.length:=by omega
  have hm:=el_mem hk
  have ht:=el_take l i hk
  rw[el_getD l i hk]
  generalize l.getD i El.zero=e at hm ht
  simp only[v_hd,v_tl,v_int,v_ls,ofBytes_length]
  refine ⟨by omega,by omega,fun h=>?_,fun h=>⟨by omega,i+1,by simp,⟨by omega,?_⟩,by omega⟩⟩
  ·have:elNarrow l=false:=decide_eq_false fun hall=>by
    have:=elFits_nar (hall e hm)
    omega
   rw[this]
  ·rw[ht]
   intro x hx
   rcases List.mem_append.1 hx with hx|hx
   ·exact i2 x hx
   ·rw[List.mem_singleton] at hx
    subst hx
    simp only[elFits,if_true]
    omega
 ·have he:i=l.length:=by omega
  rw[he,List.take_length] at i2
  have:elNarrow l=true:=decide_eq_true i2
  rw[this]
theorem pc_elem_Profile (l:List El) (hl:l.length≤1000000):PC Tryz.prog f_elem_Profile [(.sl ElSh,Els l)] [(U16,.int (elProfile l:Nat))]:=by
 apply pcv_elem_Profile rfl
 simp only[vc_elem_Profile,sVC,sEV,sENV,sVAL,sBO,forall_const]
 refine ⟨_,pc_elem_Right l hl,?_⟩
 simp only[sEV,sENV,sVAL,sBO,forall_const]
 unfold elProfile
 refine ⟨fun h=>?_,fun h=>⟨_,pc_elem_narrow l hl,?_⟩⟩
 ·rw[if_neg (by simpa using h)];rfl
 ·rw[if_pos (by simpa using h)]
  simp only[sEV,sENV,sVAL,sBO,forall_const]
  refine ⟨fun h=>?_,fun h=>?_⟩<;>rw[h]<;>rfl
theorem elRaw_snoc (nar:Bool) (l:List El) (e:El):elRaw nar (l++ [e])=elRaw nar l++enc nar e:=by simp[elRaw]
theorem elRaw_len (nar:Bool):∀(l:List El),(∀e∈l,e.data.length≤255)→(elRaw nar l).length≤257*l.length
 | [],_=>by simp[elRaw]
 |e::l,h=>by
  have ih:=elRaw_len nar l (fun x hx=>h x (by simp[hx]))
  have h1:=h e (by simp)
  have h2:=enc_length nar e
  have h3:Plain.ahead nar≤2:=by unfold Plain.ahead;split<;>omega
  have e1:elRaw nar (e::l)=enc nar e++elRaw nar l:=by simp[elRaw]
  rw[e1,List.length_append,List.length_cons]
  omega
theorem nib_or (a b:Nat) (ha:a<16) (hb:b<16):arith .or .i64 (arith .shl .i64 (a:Int) 4) (b:Int)=((16*a+b:Nat):Int):=by
 have h1:arith .shl .i64 (a:Int) 4=((16*a:Nat):Int):=by
  rw[arith_shl,show (2:Int)^(min (4:Int).toNat IntKind.i64.bits)=16 from rfl,wrapi64_in (by omega)]
  omega
 rw[h1,arith_orH (Nat.lt_of_lt_of_le (show 16*a<256 by omega) (by decide)) (Nat.lt_of_lt_of_le (show b<256 by omega) (by decide))]
 congr 1
 have key:∀a b:Fin 16,16*a.1|||b.1=16*a.1+b.1:=by decide
 exact key ⟨a,ha⟩ ⟨b,hb⟩
theorem right_mem {l:List El} (h:elRight l):∀e∈l,1≤e.id∧e.id≤255∧e.data.length≤255:=by
 intro e he
 obtain ⟨j,hj,rfl⟩:=List.getElem_of_mem he
 have:=h j hj
 unfold elAt at this
 rw[List.getD_eq_getElem?_getD,List.getElem?_eq_getElem hj] at this
 exact ⟨this.1,this.2.1,this.2.2.1⟩
theorem enc_nar {e:El} (h:elFits true e): [C.int (IntKind.u8.wrap (arith .or .i64 (arith .shl .i64 e.id 4) ((e.data.length:Int)-1)))]++ofBytes e.data=ofBytes (enc true e):=by
 obtain ⟨h1,h2,h3,h4⟩:=elFits_nar h
 obtain ⟨n,hn⟩:∃n:Nat,e.id=n:=⟨e.id.toNat,by omega⟩
 have e1:(e.data.length:Int)-1=((e.data.length-1:Nat):Int):=by omega
 rw[hn,e1,nib_or n _ (by omega) (by omega),byte_nat]
 unfold enc
 rw[if_pos rfl,hn,Int.toNat_natCast,show 16*n+(e.data.length-1)=16*n+e.data.length-1 by omega]
 simp only[ofBytes,List.map_cons,List.cons_append,List.nil_append]
theorem enc_wide {e:El} (h:1≤e.id∧e.id≤255∧e.data.length≤255): [C.int (IntKind.u8.wrap e.id),C.int (IntKind.u8.wrap (e.data.length:Int))]++ofBytes e.data=ofBytes (enc false e):=by
 obtain ⟨n,hn⟩:∃n:Nat,e.id=n:=⟨e.id.toNat,by omega⟩
 rw[hn,byte_nat,byte_nat]
 unfold enc
 rw[if_neg (by simp),hn,Int.toNat_natCast]
 simp only[ofBytes,List.map_cons,List.cons_append,List.nil_append]
def elwB (l:List El):List UInt8:=if elRight l then elBytes l else []
def elwE (l:List El):Int:=if elRight l then 0 else 1
theorem raw_take_len {nar:Bool} {l:List El} (h:elRight l) (i:Nat) (hi:i≤l.length):(elRaw nar (l.take i)).length≤257*i:=by
 have:=elRaw_len nar (l.take i) (fun e he=>(right_mem h e (List.mem_of_mem_take he)).2.2)
 rw[List.length_take] at this
 omega
theorem pc_elem_Write (l:List El) (hl:l.length≤10000):PC Tryz.prog f_elem_Write [(.sl ElSh,Els l)] [(U16,.int (elProfile l:Nat)),(Byt,B (elwB l)),(I64,.int (elwE l))]:=by
 apply pcv_elem_Write rfl
 simp only[vc_elem_Write,sVC,sEV,sENV,sVAL,sBO,forall_const,List.length_map]
 refine ⟨_,pc_elem_Profile l (by omega),?_⟩
 simp only[sEV,sENV,sVAL,sBO,forall_const]
 by_cases hr:elRight l
 ·have hp:=elProfile_eq hr
  have hw:elwB l=elBytes l:=if_pos hr
  have he:elwE l=0:=if_pos hr
  rw[hp,hw,he]
  have hfit:=(elRight_fits hr).1
  unfold elBytes
  generalize hn:elNarrow l=nar at hfit
  refine ⟨fun h=>?_,fun h=>?_⟩
  ·exfalso
   unfold profOf at h
   cases nar<;>simp at h
  ·refine VC.go_loop (fun i:Nat=> [B (elRaw nar (l.take i)),.int (i:Int)]) (fun i=>i≤l.length) (fun i=>l.length-i) 0 (by simp[E.eval,elRaw,ofBytes]) (Nat.zero_le _) fun i hi=>?_
   have hlen:=raw_take_len (nar:=nar) hr i hi
   simp only[sVC,sEV,sENV,sVAL,sBO,forall_const,List.length_map,ofBytes_length,List.length_cons,List.length_nil]
   refine ⟨fun hc=>?_,fun hc=>?_⟩
   ·have hk:i<l.length:=by omega
    have hm:=hfit _ (el_mem hk)
    have hm2:=right_mem hr _ (el_mem hk)
    have ht:=el_take l i hk
    rw[el_getD l i hk]
    generalize l.getD i El.zero=e at hm ht hm2
    simp only[v_hd,v_tl,v_int,v_ls,ofBytes_length]
    refine ⟨by omega,by omega,fun h1=>?_,fun h1=>?_⟩
    ·have hnar:nar=true:=by
      unfold profOf at h1
      cases nar
      ·simp at h1
      ·rfl
     subst hnar
     refine ⟨by omega,by omega,by omega,by omega,i+1,?_,by omega,by omega⟩
     rw[List.append_assoc,enc_nar hm,ofBytes_append,ht,elRaw_snoc]
     simp
    ·have hnar:nar=false:=by
      unfold profOf at h1
      cases nar
      ·rfl
      ·simp at h1
     subst hnar
     refine ⟨by omega,by omega,by omega,i+1,?_,by omega,by omega⟩
     rw[List.append_assoc,enc_wide hm2,ofBytes_append,ht,elRaw_snoc]
     simp
   ·have hi2:i=l.length:=by omega
    rw[hi2,List.take_length] at hlen ⊢
    refine ⟨_,pc_pad_Fill (elRaw nar l) (by omega),rfl⟩
 ·have hp:elProfile l=0:=if_neg hr
  have hw:elwB l=[]:=if_neg hr
  have he:elwE l=1:=if_neg hr
  rw[hp,hw,he]
  refine ⟨fun _=>rfl,fun h=>by simp at h⟩
theorem elRead_take (b:List UInt8) (l:List Sp) (i:Nat) (h:i<l.length):(l.take (i+1)).map (elOf b)=(l.take i).map (elOf b)++ [elOf b (l.getD i Sp.zero)]:=by rw[sp_take l i h,List.map_append];rfl
theorem el_cut (b:List UInt8) (s:Sp) (h:s.pos+s.size≤b.length):C.ls ((List.take ((s.pos:Int)+(s.size:Int)).toNat (ofBytes b)).drop ((s.pos:Int)).toNat)=B (elOf b s).data:=by
 rw[←Int.natCast_add,Int.toNat_natCast,Int.toNat_natCast,ofBytes_take,ofBytes_drop]
 unfold elOf
 congr 2
 rw[List.drop_take,Nat.add_sub_cancel_left]
theorem spots_count (q:Nat) (b:List UInt8):(spots q b).1.length≤b.length:=by
 have key:∀(nar:Bool) (n p:Nat) (out:List Sp),b.length-p≤n→out.length≤p→p≤b.length→(wk nar b p out).1.length≤b.length:=by
  intro nar n
  induction n with
  |zero=>intro p out h1 h2 h3;rw[wk_end (by omega)];simp only;omega
  |succ n ih=>
   intro p out h1 h2 h3
   by_cases hp:p<b.length
   ·by_cases h0:at_ b p=0
    ·rw[wk_zero hp h0];exact ih _ _ (by omega) (by omega) (by omega)
    ·by_cases hs:nar=true∧(at_ b p/16=15∨at_ b p/16=0)
     ·rw[wk_stop hp h0 hs];simp only;omega
     ·by_cases hw:nar=false∧b.length≤p+1
      ·rw[wk_short hp h0 hs hw];simp
      ·by_cases hl:b.length<(spAt nar b p).pos+(spAt nar b p).size
       ·rw[wk_long hp h0 hs hw hl];simp
       ·by_cases ht:(spAt nar b p).id∈spIds out
        ·rw[wk_twice hp h0 hs hw hl ht];simp
        ·rw[wk_step hp h0 hs hw hl ht]
         have:=spAt_far nar b p
         exact ih _ _ (by omega) (by simp;omega) (by omega)
   ·rw[wk_end hp];simp only;omega
 unfold spots
 split
 ·exact key true _ 0 [] (Nat.le_refl _) (Nat.zero_le _) (Nat.zero_le _)
 ·split
  ·exact key false _ 0 [] (Nat.le_refl _) (Nat.zero_le _) (Nat.zero_le _)
  ·simp
theorem pc_elem_Read (q:Nat) (hq:q<65536) (b:List UInt8) (hb:b.length≤1000000):PC Tryz.prog f_elem_Read [(U16,.int (q:Int)),(Byt,B b)] [(.sl ElSh,Els (elRead q b)),(I64,.int (spots q b).2)]:=by
 obtain ⟨g1,g2,_⟩:=spots_good q b
 have g3:=spots_count q b
 apply pcv_elem_Read rfl
 simp only[vc_elem_Read,sVC,sEV,sENV,sVAL,sBO,forall_const]
 refine ⟨_,_,pc_elem_Spots q hq b hb,?_⟩
 simp only[sEV,sENV,sVAL,sBO,forall_const,List.length_map,ofBytes_length]
 unfold elRead
 generalize (spots q b).1=l at g1 g2 g3
 refine ⟨fun h=>?_,fun h=>?_⟩
 ·rcases g2 with g2|⟨g2,_⟩
  ·exact absurd g2 h
  ·rw[g2];rfl
 ·rw[h]
  refine VC.go_loop (fun i:Nat=> [Els ((l.take i).map (elOf b)),.int (i:Int)]) (fun i=>i≤l.length) (fun i=>l.length-i) 0 rfl (Nat.zero_le _) fun i hi=>?_
  simp only[sVC,sEV,sENV,sVAL,sBO,forall_const,List.length_map,ofBytes_length,List.length_cons,List.length_nil,List.length_take]
  refine ⟨fun hc=>?_,fun hc=>?_⟩
  ·have hk:i<l.length:=by omega
   have hm:=g1 _ (sp_mem hk)
   have ht:=elRead_take b l i hk
   rw[sp_getD l i hk]
   generalize l.getD i Sp.zero=s at hm ht
   have hcut:=el_cut b s hm
   simp only[v_hd,v_tl,v_int,v_ls,hcut]
   have hcl:=congrArg (fun c:C=>c.toList.length) hcut
   simp only[v_ls,ofBytes_length] at hcl
   have hdl:(elOf b s).data.length=s.size:=by unfold elOf;simp;omega
   refine ⟨by omega,by omega,by omega,by omega,by omega,by omega,?_,by omega,by omega,i+1,?_,by omega,by omega⟩
   ·rw[hcl];omega
   ·rw[ht]
    simp only[Els,List.map_append,List.map_cons,List.map_nil]
    rfl
  ·rw[show i=l.length by omega,List.take_length]
theorem nodup_lt:∀(n:Nat) (l:List Nat),l.Nodup→(∀x∈l,x<n)→l.length≤n
 |0,l,_,h=>by
  cases l with
  |nil=>exact Nat.le_refl _
  |cons x l=>exact absurd (h x (by simp)) (Nat.not_lt_zero x)
 |n+1,l,hd,h=>by
  have ih:=nodup_lt n (l.erase n) (hd.erase n) fun x hx=>by
   have h1:=(hd.mem_erase_iff).1 hx
   have:=h x h1.2
   omega
  rw[List.length_erase] at ih
  split at ih<;>omega
theorem elRead_count (q:Nat) (b:List UInt8):(elRead q b).length≤256:=by
 obtain ⟨_,_,h⟩:=spots_good q b
 have h1:=(elRight_fits h).2
 have h2:=right_mem h
 have:=nodup_lt 256 _ h1 (by
  intro x hx
  obtain ⟨e,he,rfl⟩:=List.mem_map.1 hx
  have:=h2 e he
  omega)
 simpa using this
end Go.Vc
