/-
  The walk of text.loosen: a builder, filled in a loop over a text's bytes. The condition: a text of at most a million bytes.
-/
import Derived.Test.YtaehhpempnelhaaGreatDoorQTs
import Derived.Deep.QuietTactic
import Derived.BigQuiet
set_option maxRecDepth 100000
namespace Go.Vc
open Go Go.Proofs Go.Plain Go.RowKit Tryz
set_option maxHeartbeats 4000000 in
theorem avr(x:UInt8)(w:World):Calls prog 210 #[.int .u8 ((x.toNat:Nat):Int)] w fun e w'=>e=.returned (.int .i64 (yC x))/\w'=w:=by
 go_enter func210,ntmps210
 have h:=azy ⟨x.toNat,x.toNat_lt⟩;simp only[UInt8.ofNat_toNat]at h;go_wp2_with (go_at_call 238;refine(Tryz.strings_IndexByte _ _ _).mono ?_)
 go_ret
 simp[h]
theorem OI{x:UInt8}{n:Nat}(hn:n<256):(((x.toNat:Nat):Int)==(n:Int))=decide (x=UInt8.ofNat n):=by
 rw[Cj,beq_iff_eq,dQ];constructor
 .intro h;apply UInt8.toNat_inj.1;rw[zu];omega
 rintro rfl;rw[zu];omega
theorem ay7(a b:Nat)(ha:a<16)(hb:b<16):bits .or .i64 ((a:Int)*16) (b:Int)%256=(((UInt8.ofNat (16*a+b)).toNat:Nat):Int):=by
 have:∀a b:Fin 16,bits .or .i64 (((a.1:Nat):Int)*16) ((b.1:Nat):Int)%256=(((UInt8.ofNat (16*a.1+b.1)).toNat:Nat):Int):=by decide+kernel
 exact this ⟨a,ha⟩ ⟨b,hb⟩
theorem below_drewN{B:Nat}{a w:World}(h:Below B a w)(q:Nat):Below B a (w.drewN q):=⟨h.os,h.tape,h.output,h.size,h.block⟩
set_option maxHeartbeats 4000000 in
theorem atS(s:List UInt8)(hs:s.length<=1000000)(R:Option (List UInt8))(hR:lo s=R)(w:World):
  Calls prog 162 #[.string ⟨s.toArray⟩] w fun e w'=>e=.returned (.tuple #[.string ⟨(R.getD []).toArray⟩,.bool R.isSome])/\Below w.heap.size w w':=by
 go_enter func162,ntmps162
 go_wp2
 go_loopw [5] (fun p wr=>∃(k:Nat) (acc:List UInt8),p=.int .i64 (k:Int)/\k<=s.length/\Lib.IsBuilderF 194 5 w.heap.size w.heap.size (Lib.byteCells acc) wr/\Below w.heap.size w wr/\R=(lo (s.drop k)).map (acc++·)/\acc.length<=k) (fun p _=>s.length-(intOf p).toNat)
 case atStart=>
  exact⟨0,[],rfl,by omega,Lib.IsBuilderF.of (Lib.fresh_isBuilder 194 5 w),(eD _ w).alloc (aS _) _,by rw[<-hR];simp,by simp⟩
 case round=>
  obtain⟨k,acc,rfl,hk,hI,hbw,hlo,hal⟩:=hrel;have hS:(⟨s.toArray⟩:ByteArray).size=s.length:=by simp[ByteArray.size]
  have hsz:w.heap.size<=wr.heap.size:=hbw.size;by_cases hkl:k<s.length
  .have hd0:s.drop k=s[k]::s.drop (k+1):=D6 hkl;have fin:∀(Wf:World) (n:Nat) (q:List UInt8) (z:Int),z=(k:Int)+(n:Int)->k+n<=s.length->1<=n->q.length<=n->lo (s.drop k)=(lo (s.drop (k+n))).map (q++·)->Lib.IsBuilderF 194 5 w.heap.size w.heap.size (Lib.byteCells acc++Lib.byteCells q) Wf->Below w.heap.size w Wf->
     (∃(k':Nat) (acc:List UInt8),Value.int .i64 z=.int .i64 (k':Int)/\k'<=s.length/\Lib.IsBuilderF 194 5 w.heap.size w.heap.size (Lib.byteCells acc) Wf/\Below w.heap.size w Wf/\R=(lo (s.drop k')).map (acc++·)/\acc.length<=k'):=by
    intro Wf n q z hz hn h1 hq hl hB hb;subst hz;refine⟨k+n,acc++q,by rw[Ck],hn,by rw[Ci];exact hB,hb,?_,by simp only[cO];omega⟩;rw[hlo,hl,Option.map_map];congr 1
    funext x
    simp
   have hkI:(0:Int)<=(k:Int)/\(k:Int)<((⟨s.toArray⟩:ByteArray).size:Int):=by omega
   have hlt:(k:Int)<(s.length:Int):=by omega
   have hb0:(s[k]).toNat<256:=(s[k]).toNat_lt;have G0:((⟨s.toArray⟩:ByteArray)[k]'(by omega))=s[k]:=rfl;have q34:=OI (x:=s[k]) (n:=34) (by decide);have q92:=OI (x:=s[k]) (n:=92) (by decide);by_cases h34:s[k]=34
   .have t34:(((s[k].toNat:Nat):Int)==34)=true:=by rw[h34];rfl
    have T34:(((((⟨s.toArray⟩:ByteArray)[k]'(by omega)).toNat:Nat):Int)==34)=true:=by rw[G0];exact t34
    have hnone:R=none:=by rw[hlo,hd0,lo.eq_def,h34];simp
    subst hnone;clear hlo hR fin;go_wp2
    go_ret2
    exact⟨rfl,hbw⟩
   .have t34:(((s[k].toNat:Nat):Int)==34)=false:=by
     have:decide (s[k]=UInt8.ofNat 34)=false:=gQ h34;rw[this]at q34;exact q34
    have T34:(((((⟨s.toArray⟩:ByteArray)[k]'(by omega)).toNat:Nat):Int)==34)=false:=by rw[G0];exact t34
    by_cases h92:s[k]=92
    .have t92:(((s[k].toNat:Nat):Int) !=92)=false:=by rw[h92];rfl
     have T92:(((((⟨s.toArray⟩:ByteArray)[k]'(by omega)).toNat:Nat):Int) !=92)=false:=by rw[G0];exact t92
     by_cases hk1:k+1<s.length
     .have hd1:s.drop (k+1)=s[k+1]::s.drop (k+2):=D6 hk1;have hlt1:(k:Int)+1<(s.length:Int):=by omega
      have aDJ:(0:Int)<=(k:Int)+1/\(k:Int)+1<((⟨s.toArray⟩:ByteArray).size:Int):=by omega
      have aDK:¬(s.length:Int)<=(k:Int)+1:=by omega
      have hb1:(s[k+1]).toNat<256:=(s[k+1]).toNat_lt;have G1:((⟨s.toArray⟩:ByteArray)[k+1]'(by omega))=s[k+1]:=rfl;have p34:=OI (x:=s[k+1]) (n:=34) (by decide);have p92:=OI (x:=s[k+1]) (n:=92) (by decide);by_cases hy:s[k+1]=34\/s[k+1]=92
      .have e34:(((s[k+1].toNat:Nat):Int)==34)=decide (s[k+1]=34):=p34;have e92:(((s[k+1].toNat:Nat):Int)==92)=decide (s[k+1]=92):=p92;rcases hy with hy|hy
       .have u34:(((((⟨s.toArray⟩:ByteArray)[k+1]'(by omega)).toNat:Nat):Int)==34)=true:=by rw[G1,hy];rfl
        have V3:(((s[k+1].toNat:Nat):Int)==34)=true:=by rw[hy];rfl
        go_wp2_with (go_at_call 126;refine(Tryz.WriteByte_k w.heap.size w.heap.size _ _ _ hI (by rw[sD];omega) hsz).mono ?_)
        first|(intro e W1 he h1 b1 k1;subst he)|rintro e W1 ⟨rfl,h1,b1,k1⟩
        go_wp2
        go_roundw
        case rel=>exact fin W1 2 [s[k+1]] _ (by omega) (by omega) (by omega) (by simp) (by rw[hd0,hd1,h92,O1 _ _ (.inl hy)];rfl) (by rw[hy];exact .inr h1) (hbw.trans b1)
        case measure=>simp only[intOf];omega
       have u34:(((((⟨s.toArray⟩:ByteArray)[k+1]'(by omega)).toNat:Nat):Int)==34)=false:=by rw[G1,hy];rfl
       have V3:(((s[k+1].toNat:Nat):Int)==34)=false:=by rw[hy];rfl
       have u92:(((((⟨s.toArray⟩:ByteArray)[k+1]'(by omega)).toNat:Nat):Int)==92)=true:=by rw[G1,hy];rfl
       have akC:(((s[k+1].toNat:Nat):Int)==92)=true:=by rw[hy];rfl
       go_wp2_with (go_at_call 126;refine(Tryz.WriteByte_k w.heap.size w.heap.size _ _ _ hI (by rw[sD];omega) hsz).mono ?_)
       first|(intro e W1 he h1 b1 k1;subst he)|rintro e W1 ⟨rfl,h1,b1,k1⟩
       go_wp2
       go_roundw
       case rel=>exact fin W1 2 [s[k+1]] _ (by omega) (by omega) (by omega) (by simp) (by rw[hd0,hd1,h92,O1 _ _ (.inr hy)];rfl) (by rw[hy];exact .inr h1) (hbw.trans b1)
       case measure=>simp only[intOf];omega
      .have V3:(((s[k+1].toNat:Nat):Int)==34)=false:=by
        have:decide (s[k+1]=UInt8.ofNat 34)=false:=gQ (fun h=>hy (.inl h));rw[this]at p34;exact p34
       have akC:(((s[k+1].toNat:Nat):Int)==92)=false:=by
        have:decide (s[k+1]=UInt8.ofNat 92)=false:=gQ (fun h=>hy (.inr h));rw[this]at p92;exact p92
       have u34:(((((⟨s.toArray⟩:ByteArray)[k+1]'(by omega)).toNat:Nat):Int)==34)=false:=by rw[G1];exact V3
       have u92:(((((⟨s.toArray⟩:ByteArray)[k+1]'(by omega)).toNat:Nat):Int)==92)=false:=by rw[G1];exact akC
       by_cases hk2:k+2<s.length
       .have hd2:s.drop (k+2)=s[k+2]::s.drop (k+3):=D6 hk2;have hlt2:(k:Int)+1+1<(s.length:Int):=by omega
        have aDI:(0:Int)<=(k:Int)+1+1/\(k:Int)+1+1<((⟨s.toArray⟩:ByteArray).size:Int):=by omega
        have aCn:¬(s.length:Int)<=(k:Int)+1+1:=by omega
        go_wp2
        go_quiet (first|(go_at_call 210;refine Calls.quiet_of_same (avr _ _)))
        have hIq:Lib.IsBuilderF 194 5 w.heap.size w.heap.size (Lib.byteCells acc) (wr.drewN nq):=hI;have hbq:=below_drewN hbw nq;have aCd:w.heap.size<=(wr.drewN nq).heap.size:=hsz;generalize wr.drewN nq=wq at*;have G2:((⟨s.toArray⟩:ByteArray)[k+1+1]'(by omega))=s[k+2]:=rfl;by_cases hv:oZ s[k+1]<16/\oZ s[k+2]<16
        .have dy:yC s[k+1]=(oZ s[k+1]:Int):=by unfold yC;rw[aC hv.1]
         have dz:yC ((⟨s.toArray⟩:ByteArray)[k+1+1]'(by omega))=(oZ s[k+2]:Int):=by rw[G2];unfold yC;rw[aC hv.2]
         simp only[dy,dz];have hl3:lo (s.drop k)=(lo (s.drop (k+3))).map ([UInt8.ofNat (16*oZ s[k+1]+oZ s[k+2])]++·):=by rw[hd0,hd1,hd2,h92,ai4 _ _ _ hy hv.1 hv.2];rfl
         clear dy dz;obtain⟨ha,hb⟩:=hv;generalize oZ s[k+1]=a at*;generalize oZ s[k+2]=b at*;have na:¬(a:Int)<0:=by omega
         have nb:¬(b:Int)<0:=by omega
         go_wp2_with (go_at_call 126;refine(Tryz.WriteByte_k w.heap.size w.heap.size _ _ _ hIq (by rw[sD];omega) aCd).mono ?_)
         first|(intro e W1 he h1 b1 k1;subst he)|rintro e W1 ⟨rfl,h1,b1,k1⟩
         go_wp2
         go_roundw
         case rel=>
          refine fin W1 3 [UInt8.ofNat (16*a+b)] _ (by omega) (by omega) (by omega) (by simp) hl3 (.inr ?_) (hbq.trans b1);rw[ay7 a b ha hb]at h1;exact h1
         case measure=>simp only[intOf];omega
        have hnone:R=none:=by
         rw[hlo,hd0,hd1,hd2,h92,lo.eq_def];simp only[zq hy,zq hv];simp
        have hor:yC s[k+1]<0\/yC ((⟨s.toArray⟩:ByteArray)[k+1+1]'(by omega))<0:=by
         rw[G2];unfold yC;by_cases h1:oZ s[k+1]<16
         .right;rw[zq (fun h2=>hv ⟨h1,h2⟩)];decide
         .left;rw[zq h1];decide
        subst hnone;clear hlo hR fin;generalize yC ((⟨s.toArray⟩:ByteArray)[k+1+1]'(by omega))=vz at*;generalize yC s[k+1]=vy at*;by_cases h0:vy<0
        .have d0:decide (vy<0)=true:=iH h0;go_wp2
         go_ret2
         exact⟨rfl,hbq⟩
        have d0:decide (vy<0)=false:=gQ h0;have h1:vz<0:=hor.resolve_left h0;have d1:decide (vz<0)=true:=iH h1;clear hor;go_wp2
        go_ret2
        exact⟨rfl,hbq⟩
       .have hnone:R=none:=by
         rw[hlo,hd0,hd1,FZ (by omega),h92,lo.eq_def];simp only[zq hy];simp
        have aCn:¬((k:Int)+1+1<(s.length:Int)):=by omega
        have aDy:(s.length:Int)<=(k:Int)+1+1:=by omega
        subst hnone;clear hlo hR fin;go_wp2
        go_ret2
        exact⟨rfl,hbw⟩
     have hnone:R=none:=by rw[hlo,hd0,FZ (by omega),lo.eq_def,h92];simp
     have hge:¬((k:Int)+1<(s.length:Int)):=by omega
     have hge':(s.length:Int)<=(k:Int)+1:=by omega
     subst hnone;clear hlo hR fin;go_wp2
     go_ret2
     exact⟨rfl,hbw⟩
    .have t92:(((s[k].toNat:Nat):Int) !=92)=true:=by
      have:decide (s[k]=UInt8.ofNat 92)=false:=gQ h92;rw[this]at q92;simp only[bne,q92];have e:(((s[k].toNat:Nat):Int)==92)=false:=q92;rw[e];rfl
     have T92:(((((⟨s.toArray⟩:ByteArray)[k]'(by omega)).toNat:Nat):Int) !=92)=true:=by rw[G0];exact t92
     go_wp2_with (go_at_call 126;refine(Tryz.WriteByte_k w.heap.size w.heap.size _ _ _ hI (by rw[sD];omega) hsz).mono ?_)
     first|(intro e W1 he h1 b1 k1;subst he)|rintro e W1 ⟨rfl,h1,b1,k1⟩
     go_wp2
     go_roundw
     case rel=>exact fin W1 1 [s[k]] _ (by omega) (by omega) (by omega) (by simp) (by rw[hd0,TM _ _ h34 h92];rfl) (.inr h1) (hbw.trans b1)
     case measure=>simp only[intOf];omega
  obtain rfl:k=s.length:=by omega
  rw[List.drop_length,lo.eq_def]at hlo;simp only[yL,lV]at hlo;have hlt:¬((s.length:Int)<(s.length:Int)):=by omega
  subst hlo;go_wp2_with (go_at_call 105;refine(Tryz.String_k w.heap.size w.heap.size acc _ hI hsz).mono ?_)
  first|(intro e W2 he _ b2 _;subst he)|rintro e W2 ⟨rfl,_,b2,_⟩
  clear hR;go_wp2
  go_ret2
  exact⟨rfl,hbw.trans b2⟩
theorem axI:ahe:=by
 intro s hs;refine PC.qX (by decide) ⟨⟨_,func162,by kernel_rfl,by kernel_rfl⟩,fun w N vs aX hrd=>?_⟩;obtain⟨v,r,rfl,⟨us,hu,rfl⟩,hr⟩:=hrd;simp only[fI]at hr;subst hr;simp only[Rd]at hu;subst hu;refine(atS s hs _ rfl w).mono fun e w' ⟨he,hb⟩=>⟨_,he,⟨[.string ⟨((lo s).getD []).toArray⟩,.bool (lo s).isSome],⟨_,_,rfl,⟨_,rfl,rfl⟩,_,_,rfl,⟨_,rfl,rfl⟩,rfl⟩,?_⟩,hb⟩;simp
end Go.Vc
