/-
  The walk of text.Quote: a builder, filled in a range over a string. The condition: a text of at most a million bytes.
-/
import Derived.Test.YtaehhpempnelhaaGreatDoorQTx1
set_option maxRecDepth 100000
namespace Go.Vc
open Go Go.Proofs Go.Plain Go.RowKit Tryz
theorem BuilderAtF.below{T e:TypeId}{B b:Nat}{p:Value}{bs:List Value}{w w':World}(h:Lib.BuilderAtF T e B b p bs w)(hb:Below w.heap.size w w'):Lib.BuilderAtF T e B b p bs w':=by
 have hlt:=h.lt;obtain⟨hB,v,hbk,hown,hne⟩:=h;refine⟨hB,v,by rw[hb.block b hlt];exact hbk,⟨hown.1,?_⟩,hne⟩;rcases hown.2 with h0|⟨g,cap,cur,fz,h1,h2,h3,h4⟩
 .exact .inl h0
 refine .inr ⟨g,cap,cur,fz,h1,h2,?_,h4⟩;rw[hb.block g (iX.1 h3).1];exact h3
theorem IsBuilderF.below{T e:TypeId}{B b:Nat}{bs:List Value}{w w':World}(h:Lib.IsBuilderF T e B b bs w)(hb:Below w.heap.size w w'):Lib.IsBuilderF T e B b bs w':=
 h.imp (fun h=>BuilderAtF.below h hb) (fun h=>BuilderAtF.below h hb)
theorem aex(r:Int)(w:World)(aX:KW prog w):Calls prog 127 #[.int .i32 r] w fun e w'=>e=.returned (.bool (decide (32<=r/\r≠127)))/\Below w.heap.size w w':=by
 have h:=((abw r).oF (by decide)).2 w (fun _=>True) [.int .i32 r] aX ⟨_,_,rfl,⟨[.int .i32 r],rfl,rfl⟩,rfl⟩;refine h.mono fun e w' ⟨v,he,⟨vs,⟨v1,r1,hv1,⟨us,hu,hv2⟩,hr⟩,hv⟩,hb⟩=>⟨?_,hb⟩;simp only[fI]at hr;subst hr;simp only[Rd]at hu;subst hu;subst hv1;simp[Sh.mk,Sh.isAgg]at hv2;subst hv2;simp at hv;rw[he,hv];simp
theorem auO(s:List UInt8)(p:Nat)(h:p<s.length)(hs:s.length<=1000000)(w:World)(aX:KW prog w):
  Calls prog 128 #[.string ⟨s.toArray⟩,.int .i64 p,.int .i32 ((Lib.decodeL (s.drop p)).1:Nat)] w fun e w'=>e=.returned (.bool (stray (s.drop p)))/\Below w.heap.size w w':=by
 have h:=((abv s p h hs).oF (by decide)).2 w (fun _=>True) [.string ⟨s.toArray⟩,.int .i64 p,.int .i32 ((Lib.decodeL (s.drop p)).1:Nat)] aX
  ⟨_,_,rfl,⟨[.string ⟨s.toArray⟩],rfl,rfl⟩,_,_,rfl,⟨[.int .i64 p],rfl,rfl⟩,_,_,rfl,⟨[.int .i32 ((Lib.decodeL (s.drop p)).1:Nat)],rfl,rfl⟩,rfl⟩
 refine h.mono fun e w' ⟨v,he,⟨vs,⟨v1,r1,hv1,⟨us,hu,hv2⟩,hr⟩,hv⟩,hb⟩=>⟨?_,hb⟩;simp only[fI]at hr;subst hr;simp only[Rd]at hu;subst hu;subst hv1;simp[Sh.mk,Sh.isAgg]at hv2;subst hv2;simp at hv;rw[he,hv]
theorem OE(n:Nat)(h:n<16):([48,49,50,51,52,53,54,55,56,57,97,98,99,100,101,102]:List UInt8).getD n 0=oo n:=by
 have:∀n:Fin 16,([48,49,50,51,52,53,54,55,56,57,97,98,99,100,101,102]:List UInt8).getD n.1 0=oo n.1:=by decide+kernel
 exact this ⟨n,h⟩
theorem n92:(((92:UInt8).toNat:Nat):Int)=92:=rfl
theorem aho(s:List UInt8)(p:Nat)(h:p<(⟨s.toArray⟩:ByteArray).size):((⟨s.toArray⟩:ByteArray)[p]'h)=s.getD p 0:=by
 have h':p<s.length:=by simpa[ByteArray.size]using h
 rw[F7,nL h'];rfl
theorem aku{s:List UInt8}{p:Nat}(hne:s.drop p≠[])(ho:jW ((s.drop p).take (bQ (s.drop p)))=false):
  qc ((s.drop p).take (bQ (s.drop p)))=[92,oo ((s.getD p 0).toNat/16),oo ((s.getD p 0).toNat%16)]:=by
 have h1:=Bb (s.drop p);have e:((s.drop p).take (bQ (s.drop p))).getD 0 0=s.getD p 0:=by
  simp only[F7,sw,yK,qE];rw[aC (by omega)]
 unfold qc qk;rw[ho,zq (by simp),e];rfl
theorem awI{l:List UInt8}(h:l≠[]):Lib.decodeL (l.take (bQ l))=Lib.decodeL l:=(JQ h).2
theorem aAp{l:List UInt8}(hne:l≠[])(ho:jW (l.take (bQ l))=true):(qc (l.take (bQ l))).length=(if l.take (bQ l)=[34]\/l.take (bQ l)=[92]then 1+bQ l else bQ l):=by
 have hw:=Db hne;unfold qc qk;rw[aC ho];split
 .simp;omega
 simp;omega
theorem aCa{l:List UInt8}(hne:l≠[])(ho:jW (l.take (bQ l))=true):
  qc (l.take (bQ l))=(if(Lib.decodeL l).1=34\/(Lib.decodeL l).1=92 then [92]else [])++Lib.encodeRune ((Lib.decodeL l).1:Nat):=by
 have hv:¬((Lib.decodeL l).1=65533/\(Lib.decodeL l).2=1):=by
  rintro⟨h1,h2⟩;rw[U4 hne]at ho;have:stray l=true:=by unfold stray;rw[h1,h2];rfl
  rw[this]at ho;simp at ho
 have he:=Lib.encode_decode l hne hv;have hd:=awI hne;have e34:l.take (bQ l)=[34]↔(Lib.decodeL l).1=34:=by
  constructor
  .intro h;rw[h]at hd;rw[<-hd];rfl
  .intro h;unfold bQ;rw[<-he,h];rfl
 have e92:l.take (bQ l)=[92]↔(Lib.decodeL l).1=92:=by
  constructor
  .intro h;rw[h]at hd;rw[<-hd];rfl
  .intro h;unfold bQ;rw[<-he,h];rfl
 unfold qc qk;rw[aC ho,he];by_cases hc:(Lib.decodeL l).1=34\/(Lib.decodeL l).1=92
 .rw[aC hc,aC (hc.imp e34.2 e92.2)];simp;rfl
 rw[zq hc,zq (fun h=>hc (h.imp e34.1 e92.1))];simp;rfl
set_option maxHeartbeats 4000000 in
theorem avD(s:List UInt8)(hs:s.length<=1000000)(w:World)(aX:KW prog w):
  Calls prog 102 #[.string ⟨s.toArray⟩] w fun e w'=>e=.returned (.string ⟨(qs s).toArray⟩)/\Below w.heap.size w w':=by
 go_enter func102,ntmps102
 go_wp2_with (go_at_call 126;refine(Tryz.WriteByte_k w.heap.size w.heap.size [] 34 _ (Lib.IsBuilderF.of (Lib.fresh_isBuilder 194 5 w)) (by simp) (by simp)).mono ?_)
 rintro e W0 ⟨rfl,h0,b0,k0⟩;have hb0:Below w.heap.size w W0:=((eD _ w).alloc (aS _) _).trans b0;go_wp2
 go_loopw [] (fun wr=>∃(pos:Nat) (acc:List UInt8),Lib.IsBuilderF 194 5 w.heap.size w.heap.size (Lib.byteCells acc) wr/\wr.heap[W0.heap.size]?=some (.stringIter ⟨s.toArray⟩ pos)/\Below w.heap.size w wr/\acc++((chunks (s.drop pos)).flatMap qc++ [34])=qs s/\acc.length<=1+4*pos/\pos<=s.length) (fun wr=>s.length-wr.iterPos W0.heap.size)
 case atStart=>
  refine⟨0,[34],?_,?_,hb0.alloc (by have:=hb0.size;omega) _,?_,by simp,by omega⟩
  .exact Lib.IsBuilderF.alloc (.inr h0) _
  .exact World.iter_heap W0 _ 0
  unfold qs;simp
 case round=>
  obtain⟨pos,acc,hI,hit,hbw,hacc,hal,aDG⟩:=hrel;have hsz:W0.heap.size<wr.heap.size:=(iX.1 hit).1;have hW0:w.heap.size<W0.heap.size:=h0.lt;have hS:(⟨s.toArray⟩:ByteArray).size=s.length:=by simp[ByteArray.size]
  by_cases hp:pos<s.length
  .have hne:s.drop pos≠[]:=by intro h;have:=pX List.length h;simp at this;omega
   have hnx:∀ty,(Instr.next (.pointer (some ⟨W0.heap.size,0,none⟩)) true ty).run prog wr=_:=fun ty=>Lib.run_next_any_at wr W0.heap.size ⟨s.toArray⟩ pos ty hit (by omega);simp only[KV]at hnx;have hwd:=Bb (s.drop pos);have hd1:=Db hne;have hoe:=U4 hne;have fin:∀(Wf:World) (q:List UInt8),q.length<=4*(Lib.decodeL (s.drop pos)).2->qc ((s.drop pos).take (bQ (s.drop pos)))=q->Lib.IsBuilderF 194 5 w.heap.size w.heap.size (Lib.byteCells (acc++q)) Wf->
     Wf.heap[W0.heap.size]?=some (.stringIter ⟨s.toArray⟩ (pos+(Lib.decodeL (s.drop pos)).2))->Below w.heap.size w Wf->
     (∃(pos:Nat) (acc:List UInt8),Lib.IsBuilderF 194 5 w.heap.size w.heap.size (Lib.byteCells acc) Wf/\Wf.heap[W0.heap.size]?=some (.stringIter ⟨s.toArray⟩ pos)/\Below w.heap.size w Wf/\acc++((chunks (s.drop pos)).flatMap qc++ [34])=qs s/\acc.length<=1+4*pos/\pos<=s.length)/\
      s.length-Wf.iterPos W0.heap.size<s.length-wr.iterPos W0.heap.size:=by
    intro Wf q Qs hq hIf akL hbf;unfold bQ at hwd hd1;rw[lW]at hd1;refine⟨⟨pos+(Lib.decodeL (s.drop pos)).2,acc++q,hIf,akL,hbf,?_,by simp only[cO];omega,by omega⟩,?_⟩
    .rw[<-hacc,A8 hne,List.flatMap_cons,hq,xq];unfold bQ;simp
    .simp only[World.iterPos,akL,hit];omega
   have hI2:=hI.iterAt hit (pos+(Lib.decodeL (s.drop pos)).2);have hit2:=Lib.iterAt_heap wr W0.heap.size ⟨s.toArray⟩ pos (pos+(Lib.decodeL (s.drop pos)).2) hit;have hbw2:=Lib.below_iterAt hbw (k:=W0.heap.size) (by omega) ⟨s.toArray⟩ (pos+(Lib.decodeL (s.drop pos)).2);have hsz2:W0.heap.size<(wr.iterAt W0.heap.size ⟨s.toArray⟩ (pos+(Lib.decodeL (s.drop pos)).2)).heap.size:=by rw[Lib.iterAt_size];exact hsz
   have LQ:=aX.below hbw2;have hdl:(Lib.decodeL (s.drop pos)).1<=2147483647:=by have:=decode_le ⟨s.toArray⟩ pos;rwa[KV]at this
   generalize wr.iterAt W0.heap.size ⟨s.toArray⟩ (pos+(Lib.decodeL (s.drop pos)).2)=wn at*;by_cases hpl:32<=(Lib.decodeL (s.drop pos)).1/\(Lib.decodeL (s.drop pos)).1≠127
   .go_wp2_with (go_at_call 127;refine(aex _ _ LQ).mono ?_)
    rintro e W1 ⟨rfl,b1⟩;have hpf:decide (32<=(((Lib.decodeL (s.drop pos)).1:Nat):Int)/\(((Lib.decodeL (s.drop pos)).1:Nat):Int)≠127)=true:=by simp only[dQ];omega
    simp only[hpf];have Gg:=IsBuilderF.below hI2 b1;have hit3:W1.heap[W0.heap.size]?=_:=(b1.block _ hsz2).trans hit2;have hlt3:w.heap.size<=W1.heap.size:=by have:=b1.size;have:=hbw2.size;omega
    have Qe:Below w.heap.size w W1:=hbw2.trans (b1.mono (by have:=hbw2.size;omega));go_wp2_with (go_at_call 128;refine(auO s pos hp hs _ (aX.below Qe)).mono ?_)
    rintro e W2 ⟨rfl,b2⟩;have Jy:=IsBuilderF.below Gg b2;have Qc:W2.heap[W0.heap.size]?=_:=(b2.block _ (by have:=b1.size;omega)).trans hit3;have IU:w.heap.size<=W2.heap.size:=by have:=b2.size;omega
    have Qd:Below w.heap.size w W2:=Qe.trans (b2.mono hlt3);by_cases hst:stray (s.drop pos)=true
    .have hok:jW ((s.drop pos).take (bQ (s.drop pos)))=false:=by rw[hoe,hst];simp
     simp only[hst];go_wp2_with (go_at_call 126;refine(Tryz.WriteByte_k w.heap.size w.heap.size _ 92 _ Jy (by rw[sD];omega) IU).mono ?_)
     rintro e W3 ⟨rfl,h3,b3,k3⟩;have hlt:(((⟨s.toArray⟩:ByteArray)[pos]'(by omega)).toNat)<256:=UInt8.toNat_lt _;have h16:0<=((((⟨s.toArray⟩:ByteArray)[pos]'(by omega)).toNat:Nat):Int)/16/\((((⟨s.toArray⟩:ByteArray)[pos]'(by omega)).toNat:Nat):Int)/16<16:=by omega
     have BP:w.heap.size<=W3.heap.size:=by have:=b3.size;omega
     go_wp2_with (go_at_call 126;refine(Tryz.WriteByte_k w.heap.size w.heap.size _ _ _ (.inr h3) (by simp only[cO,sD,yJ];omega) BP).mono ?_)
     rintro e W4 ⟨rfl,h4,b4,k4⟩;have aCj:w.heap.size<=W4.heap.size:=by have:=b4.size;omega
     go_wp2_with (go_at_call 126;refine(Tryz.WriteByte_k w.heap.size w.heap.size _ _ _ (.inr h4) (by simp only[cO,sD,yJ];omega) aCj).mono ?_)
     rintro e W5 ⟨rfl,h5,b5,k5⟩;go_wp2
     refine fin W5 _ ?_ (aku hne hok) (.inr ?_) (k5.iter (k4.iter (k3.iter Qc (by omega)) (by omega)) (by omega)) (((Qd.trans b3).trans b4).trans b5)
     .simp only[bR,eB];unfold bQ at hwd;omega
     .rw[Ci];simp only[aho]at h5;rw[<-OE ((s.getD pos 0).toNat/16) (by have:=(s.getD pos 0).toNat_lt;omega),<-OE ((s.getD pos 0).toNat%16) (by omega)];simpa only[Lib.byteCells,jG,pU,gJ,kS,iw,n92]using h5
    have hst':stray (s.drop pos)=false:=by simpa using hst
    have hok:jW ((s.drop pos).take (bQ (s.drop pos)))=true:=by rw[hoe,hst'];simp;omega
    have hq:=aCa hne hok;have hen:=Lib.runeCells_le ((Lib.decodeL (s.drop pos)).1:Int);rw[Lib.runeCells_length]at hen;have hdr: -2147483648<=(((Lib.decodeL (s.drop pos)).1:Nat):Int)/\(((Lib.decodeL (s.drop pos)).1:Nat):Int)<=2147483647:=by omega
    have Qs:(qc ((s.drop pos).take (bQ (s.drop pos)))).length<=4*(Lib.decodeL (s.drop pos)).2:=by
     rw[aAp hne hok];split<;>(unfold bQ at*;omega)
    simp only[hst'];generalize hr:(Lib.decodeL (s.drop pos)).1=r at*;by_cases h34:r=34
    .subst h34;go_wp2_with (go_at_call 126;refine(Tryz.WriteByte_k w.heap.size w.heap.size _ 92 _ Jy (by rw[sD];omega) IU).mono ?_)
     intro e W3 he h3 b3 k3;subst he;have BP:w.heap.size<=W3.heap.size:=by have:=b3.size;omega
     go_wp2_with (go_at_call 129;refine(Tryz.WriteRune_k w.heap.size w.heap.size _ _ (by omega) (by omega) _ (.inr h3) (by simp only[cO,sD,yJ];omega) BP).mono ?_)
     first|(intro e W4 he h4 b4 k4;subst he)|rintro e W4 ⟨rfl,h4,b4,k4⟩
     go_wp2
     refine fin W4 _ Qs rfl (.inr ?_) (k4.iter (k3.iter Qc (by omega)) (by omega)) ((Qd.trans b3).trans b4);rw[hq,Ci,aC (.inl (by simp)),Ci,Lib.byteCells_encodeRune,<-gJ];exact h4
    by_cases h92:r=92
    .subst h92;go_wp2_with (go_at_call 126;refine(Tryz.WriteByte_k w.heap.size w.heap.size _ 92 _ Jy (by rw[sD];omega) IU).mono ?_)
     intro e W3 he h3 b3 k3;subst he;have BP:w.heap.size<=W3.heap.size:=by have:=b3.size;omega
     go_wp2_with (go_at_call 129;refine(Tryz.WriteRune_k w.heap.size w.heap.size _ _ (by omega) (by omega) _ (.inr h3) (by simp only[cO,sD,yJ];omega) BP).mono ?_)
     first|(intro e W4 he h4 b4 k4;subst he)|rintro e W4 ⟨rfl,h4,b4,k4⟩
     go_wp2
     refine fin W4 _ Qs rfl (.inr ?_) (k4.iter (k3.iter Qc (by omega)) (by omega)) ((Qd.trans b3).trans b4);rw[hq,Ci,aC (.inr (by simp)),Ci,Lib.byteCells_encodeRune,<-gJ];exact h4
    have m34:(((r:Nat):Int)==34)=false:=by rw[Gb];omega
    have m92:(((r:Nat):Int)==92)=false:=by rw[Gb];omega
    go_wp2_with (go_at_call 129;refine(Tryz.WriteRune_k w.heap.size w.heap.size _ _ (by omega) (by omega) _ Jy (by rw[sD];omega) IU).mono ?_)
    rintro e W3 ⟨rfl,h3,b3,k3⟩;go_wp2
    refine fin W3 _ Qs rfl (.inr ?_) (k3.iter Qc (by omega)) (Qd.trans b3);rw[hq,Ci,zq (by omega),iw,Lib.byteCells_encodeRune];exact h3
   .go_wp2_with (go_at_call 127;refine(aex _ _ LQ).mono ?_)
    rintro e W1 ⟨rfl,b1⟩;have hpf:decide (32<=(((Lib.decodeL (s.drop pos)).1:Nat):Int)/\(((Lib.decodeL (s.drop pos)).1:Nat):Int)≠127)=false:=by simp only[pV];omega
    simp only[hpf];have Gg:=IsBuilderF.below hI2 b1;have hit3:W1.heap[W0.heap.size]?=_:=(b1.block _ hsz2).trans hit2;have hlt3:w.heap.size<=W1.heap.size:=by have:=b1.size;have:=hbw2.size;omega
    have Qe:Below w.heap.size w W1:=hbw2.trans (b1.mono (by have:=hbw2.size;omega));have hok:jW ((s.drop pos).take (bQ (s.drop pos)))=false:=by rw[hoe];simp only[Bool.and_eq_false_iff,pV];omega
    go_wp2_with (go_at_call 126;refine(Tryz.WriteByte_k w.heap.size w.heap.size _ 92 _ Gg (by rw[sD];omega) hlt3).mono ?_)
    rintro e W2 ⟨rfl,h2,b2,k2⟩;have hlt:(((⟨s.toArray⟩:ByteArray)[pos]'(by omega)).toNat)<256:=UInt8.toNat_lt _;have h16:0<=((((⟨s.toArray⟩:ByteArray)[pos]'(by omega)).toNat:Nat):Int)/16/\((((⟨s.toArray⟩:ByteArray)[pos]'(by omega)).toNat:Nat):Int)/16<16:=by omega
    have IU:w.heap.size<=W2.heap.size:=by have:=b2.size;omega
    go_wp2_with (go_at_call 126;refine(Tryz.WriteByte_k w.heap.size w.heap.size _ _ _ (.inr h2) (by simp only[cO,sD,yJ];omega) IU).mono ?_)
    rintro e W3 ⟨rfl,h3,b3,k3⟩;have BP:w.heap.size<=W3.heap.size:=by have:=b3.size;omega
    go_wp2_with (go_at_call 126;refine(Tryz.WriteByte_k w.heap.size w.heap.size _ _ _ (.inr h3) (by simp only[cO,sD,yJ];omega) BP).mono ?_)
    rintro e W4 ⟨rfl,h4,b4,k4⟩;go_wp2
    refine fin W4 _ ?_ (aku hne hok) (.inr ?_) (k4.iter (k3.iter (k2.iter hit3 (by omega)) (by omega)) (by omega)) (((Qe.trans b2).trans b3).trans b4)
    .simp only[bR,eB];unfold bQ at hwd;omega
    .rw[Ci];simp only[aho]at h4;rw[<-OE ((s.getD pos 0).toNat/16) (by have:=(s.getD pos 0).toNat_lt;omega),<-OE ((s.getD pos 0).toNat%16) (by omega)];simpa only[Lib.byteCells,jG,pU,gJ,kS,iw,n92]using h4
  have hnx:∀ty,(Instr.next (.pointer (some ⟨W0.heap.size,0,none⟩)) true ty).run prog wr=_:=fun ty=>Lib.run_next_end_at wr W0.heap.size ⟨s.toArray⟩ pos ty hit (by omega);rw[FZ (by omega),zf]at hacc;simp only[List.flatMap_nil,iw]at hacc;have aCe:w.heap.size<=wr.heap.size:=by omega
  go_wp2_with (go_at_call 126;refine(Tryz.WriteByte_k w.heap.size w.heap.size _ 34 _ hI (by rw[sD];omega) aCe).mono ?_)
  rintro e W1 ⟨rfl,h1,b1,k1⟩;have aCf:w.heap.size<=W1.heap.size:=by have:=b1.size;omega
  have h1':Lib.IsBuilderF 194 5 w.heap.size w.heap.size (Lib.byteCells (qs s)) W1:=by
   rw[<-hacc,Ci];exact .inr h1
  go_wp2_with (go_at_call 105;refine(Tryz.String_k w.heap.size w.heap.size (qs s) _ h1' aCf).mono ?_)
  rintro e W2 ⟨rfl,_,b2,_⟩;go_wp2
  go_ret
  exact⟨rfl,(hbw.trans b1).trans b2⟩
theorem ahu:aix:=by
 intro s hs;refine PC.qX (by decide) ⟨⟨_,func102,by kernel_rfl,by kernel_rfl⟩,fun w N vs aX hrd=>?_⟩;obtain⟨v,r,rfl,⟨us,hu,rfl⟩,hr⟩:=hrd;simp only[fI]at hr;subst hr;simp only[Rd]at hu;subst hu;refine(avD s hs w aX).mono fun e w' ⟨he,hb⟩=>⟨_,he,⟨[.string ⟨(qs s).toArray⟩],⟨_,_,rfl,⟨_,rfl,rfl⟩,rfl⟩,?_⟩,hb⟩;simp
end Go.Vc
