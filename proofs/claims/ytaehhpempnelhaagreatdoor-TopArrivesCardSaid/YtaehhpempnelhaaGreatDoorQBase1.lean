/-
  My own general texts, one behind the other: a generator of conditions over the model, with its proof, and plain lemmas. No condition on the program.
-/
import Derived.Lib.MapLaws
import Derived.WalkKit
import Derived.Deep.LoopGhost
import Derived.Orders
import Derived.OwnWalkIn
import Derived.Maps.OwnIn
import Derived.RangeFuncOwn
namespace Go.Plain
end Go.Plain
namespace Go.Plain
open Go.Lib (decodeL decodeN)
def bf(l:List UInt8):Nat:=(decodeL l).2
def stray(l:List UInt8):Bool:=decide ((decodeL l).1=65533)&&decide ((decodeL l).2=1)
theorem xg(l:List UInt8):1<=bf l:=Lib.decodeL_width l
theorem zJ{l:List UInt8}(h:l≠[]):bf l<=l.length:=Lib.decodeL_le l h
inductive Dec (l:List UInt8):Prop
 |ascii (x:UInt8) (t:List UInt8) (hl:l=x::t) (hx:x.toNat<128) (h:decodeL l=(x.toNat,1))
 |bad (x:UInt8) (t:List UInt8) (hl:l=x::t) (hx:128<=x.toNat) (h:decodeL l=(65533,1))
 |many (c t:List UInt8) (hl:l=c++t) (hc:∀x∈c,128<=x.toNat) (h2:2<=c.length) (hw:(decodeL l).2=c.length) (hr:128<=(decodeL l).1) (h:∀r,decodeL (c++r)=decodeL l)
theorem ao9{l:List UInt8}(hne:l≠[]):∃x t,l=x::t:=by cases l with|nil=>exact absurd rfl hne|cons x t=>exact ⟨x,t,rfl⟩
theorem dec{l:List UInt8}(hne:l≠[]):Dec l:=by
 have hl:0<l.length:=List.length_pos_iff.2 hne;have e:=Lib.decodeL_N l;have k0:=(l.getD 0 0).toNat_lt;have k1:=(l.getD 1 0).toNat_lt;have k2:=(l.getD 2 0).toNat_lt;have k3:=(l.getD 3 0).toNat_lt;obtain ⟨x,t,hx⟩:=ao9 hne;have h0:l.getD 0 0=x:=by rw[hx];rfl
 rcases Lib.decodeN_shape l.length (l.getD 0 0).toNat (l.getD 1 0).toNat (l.getD 2 0).toNat (l.getD 3 0).toNat with ⟨c,e'⟩|⟨c1,c2,c3,cv,e'⟩|⟨c1,c2,c3,c4,cv,cs,e'⟩|⟨c1,c2,c3,c4,c5,cv,cw,e'⟩|e'
 .rw[e'] at e;exact .ascii x t hx (by rw[<-h0];exact c) (by rw[e,h0])
 .have hw:(decodeL l).2=2:=by rw[e,e']
  have ht:l.take 2=[l.getD 0 0,l.getD 1 0]:=Lib.takeB l c2;refine .many (l.take 2) (l.drop 2) (List.take_append_drop 2 l).symm ?_ ?_ ?_ ?_ ?_
  .rw[ht];intro y hy;simp only[List.mem_cons,List.not_mem_nil,or_false] at hy;rcases hy with rfl|rfl<;>omega
  .rw[ht];simp
  .rw[ht,hw];rfl
  .rw[e,e'];simp only;omega
  .intro r;rw[ht,e,e',Lib.decodeL_N];simp only[List.cons_append,List.nil_append,List.getD_cons_zero,List.getD_cons_succ,List.length_cons];unfold decodeN;rw[if_neg (by omega),if_pos ⟨c1,by omega,c3⟩,if_pos cv]
 .have hw:(decodeL l).2=3:=by rw[e,e']
  have ht:l.take 3=[l.getD 0 0,l.getD 1 0,l.getD 2 0]:=Lib.takeC l c2;refine .many (l.take 3) (l.drop 3) (List.take_append_drop 3 l).symm ?_ ?_ ?_ ?_ ?_
  .rw[ht];intro y hy;simp only[List.mem_cons,List.not_mem_nil,or_false] at hy;rcases hy with rfl|rfl|rfl<;>omega
  .rw[ht];simp
  .rw[ht,hw];rfl
  .rw[e,e'];simp only;omega
  .intro r;rw[ht,e,e',Lib.decodeL_N];simp only[List.cons_append,List.nil_append,List.getD_cons_zero,List.getD_cons_succ,List.length_cons];unfold decodeN;rw[if_neg (by omega),if_neg (by omega),if_pos ⟨c1,⟨by omega,c3⟩,by omega,c4⟩,if_pos ⟨cv,by omega⟩]
 .have hw:(decodeL l).2=4:=by rw[e,e']
  have ht:l.take 4=[l.getD 0 0,l.getD 1 0,l.getD 2 0,l.getD 3 0]:=Lib.takeD l c2;refine .many (l.take 4) (l.drop 4) (List.take_append_drop 4 l).symm ?_ ?_ ?_ ?_ ?_
  .rw[ht];intro y hy;simp only[List.mem_cons,List.not_mem_nil,or_false] at hy;rcases hy with rfl|rfl|rfl|rfl<;>omega
  .rw[ht];simp
  .rw[ht,hw];rfl
  .rw[e,e'];simp only;omega
  .intro r;rw[ht,e,e',Lib.decodeL_N];simp only[List.cons_append,List.nil_append,List.getD_cons_zero,List.getD_cons_succ,List.length_cons];unfold decodeN;rw[if_neg (by omega),if_neg (by omega),if_neg (by omega),if_pos ⟨c1,⟨by omega,c3⟩,⟨by omega,c4⟩,by omega,c5⟩,if_pos ⟨cv,by omega⟩]
 .by_cases hx2:x.toNat<128
  .refine .ascii x t hx hx2 ?_;rw[e,h0];simp[decodeN,hx2]
  .exact .bad x t hx (by omega) (by rw[e,e'])
def chunks(l:List UInt8):List (List UInt8):=
 if h:l=[] then [] else l.take (bf l)::chunks (l.drop (bf l))
termination_by l.length
decreasing_by
 have:=xg l;have:=List.length_pos_iff.2 h;rw[List.length_drop];omega
theorem zo:chunks []=[]:=by rw[chunks,dif_pos rfl]
theorem wX{l:List UInt8}(h:l≠[]):chunks l=l.take (bf l)::chunks (l.drop (bf l)):=by rw[chunks,dif_neg h]
theorem Jj{P:List UInt8->Prop}(nil:P [])(step:∀l,l≠[]->P (l.drop (bf l))->P l)(l:List UInt8):P l:=by
 have h:∀(n:Nat) (l:List UInt8),l.length<=n->P l:=by
  intro n;induction n with
  |zero=>intro l hl;obtain rfl:l=[]:=List.length_eq_zero_iff.1 (by omega);exact nil
  |succ n ih=>
   intro l hl;by_cases he:l=[]
   .rw[he];exact nil
   .have:=xg l;exact step l he (ih _ (by rw[List.length_drop];omega))
 exact h _ l (Nat.le_refl _)
theorem XP(l:List UInt8):(chunks l).flatten=l:=by
 induction l using Jj with
 |nil=>rw[zo];rfl
 |step l h ih=>rw[wX h,List.flatten_cons,ih,List.take_append_drop]
def whole(c:List UInt8):Prop:=c≠[]/\stray c=false/\bf c=c.length
inductive Chunk (c:List UInt8):Prop
 |ascii (x:UInt8) (hc:c=[x]) (hx:x.toNat<128)
 |bad (x:UInt8) (hc:c=[x]) (hx:128<=x.toNat)
 |many (h2:2<=c.length) (hc:∀x∈c,128<=x.toNat) (hw:whole c) (hr:128<=(decodeL c).1)
theorem amQ(x:UInt8)(t:List UInt8)(hx:x.toNat<128):decodeL (x::t)=(x.toNat,1):=by rw[Lib.decodeL_N];exact Lib.decodeN_ascii _ _ _ _ _ (by simpa using hx)
theorem abL(x:UInt8)(hx:128<=x.toNat):decodeL [x]=(65533,1):=by
 rw[Lib.decodeL_N];exact Lib.decodeN_alone _ _ _ _ _ (by simpa using hx) (.inl (by simp))
theorem DC{l:List UInt8}(h:l≠[]):Chunk (l.take (bf l))/\decodeL (l.take (bf l))=decodeL l:=by
 cases dec h with
 |ascii x t hl hx hd=>
  have e:l.take (bf l)=[x]:=by unfold bf;rw[hd,hl];rfl
  rw[e];exact ⟨.ascii x rfl hx,by rw[hd,amQ x [] hx]⟩
 |bad x t hl hx hd=>
  have e:l.take (bf l)=[x]:=by unfold bf;rw[hd,hl];rfl
  rw[e];exact ⟨.bad x rfl hx,by rw[hd,abL x hx]⟩
 |many c t hl hc h2 hw hr hd=>
  have e:l.take (bf l)=c:=by unfold bf;rw[hw,hl,List.take_left]
  have e2:decodeL c=decodeL l:=by have:=hd [];rwa[List.append_nil] at this
  rw[e];refine ⟨.many h2 hc ⟨by intro h;rw[h] at h2;simp at h2,?_,?_⟩ (by rw[e2];exact hr),e2⟩
  .unfold stray;rw[e2,hw];have:¬c.length=1:=by omega
   simp[this]
  .unfold bf;rw[e2,hw]
theorem amX{l:List UInt8}:∀c∈chunks l,Chunk c:=by
 induction l using Jj with
 |nil=>rw[zo];simp
 |step l h ih=>
  rw[wX h];intro c hc;rcases List.mem_cons.1 hc with rfl|hc
  .exact (DC h).1
  .exact ih c hc
theorem al7(x:UInt8)(hx:128<=x.toNat):stray [x]=true:=by unfold stray;rw[abL x hx];rfl
def kR(c:List UInt8):Bool:=decide (32<=(decodeL c).1)&&(decide ((decodeL c).1≠127)&& !stray c)
def yC(l:List UInt8):Bool:=(chunks l).all kR
def lC(n:Nat):UInt8:=UInt8.ofNat (if n<10 then 48+n else 87+n)
def qk(c:List UInt8):List (List UInt8):=
 if kR c then (if c=[34]\/c=[92] then [[92],c] else [c])
 else [[92],[lC ((c.getD 0 0).toNat/16)],[lC ((c.getD 0 0).toNat%16)]]
def qc(c:List UInt8):List UInt8:=(qk c).flatten
def qs(l:List UInt8):List UInt8:=34::((chunks l).flatMap qc++ [34])
theorem apf(n:Nat)(h:n<16):48<=(lC n).toNat/\(lC n).toNat<103/\lC n≠34/\lC n≠92/\lC n≠32:=by
 have:∀n:Fin 16,48<=(lC n.1).toNat/\(lC n.1).toNat<103/\lC n.1≠34/\lC n.1≠92/\lC n.1≠32:=by decide
 exact this ⟨n,h⟩
def kG(x:UInt8):Nat:=if 48<=x.toNat/\x.toNat<=57 then x.toNat-48 else if 97<=x.toNat/\x.toNat<=102 then x.toNat-87 else 16
theorem H7(n:Nat)(h:n<16):kG (lC n)=n:=by
 have:∀n:Fin 16,kG (lC n.1)=n.1:=by decide
 exact this ⟨n,h⟩
theorem anH{c:List UInt8}(hw:whole c)(hr:128<=(decodeL c).1):kR c=true:=by
 unfold kR;rw[hw.2.1];have h1:32<=(decodeL c).1:=by omega
 have h2:(decodeL c).1≠127:=by omega
 simp[h1,h2]
theorem ao2(x:UInt8)(hx:128<=x.toNat):kR [x]=false:=by
 unfold kR;rw[al7 x hx];simp
theorem ao3{c:List UInt8}(h:Chunk c)(ho:kR c=false):∃x,c=[x]:=by
 cases h with
 |ascii x hc hx=>exact ⟨x,hc⟩
 |bad x hc hx=>exact ⟨x,hc⟩
 |many h2 hc hw hr=>rw[anH hw hr] at ho;cases ho
def lo:List UInt8->Option (List UInt8)
 | []=>some []
 |x::t=>
  if x=34 then none
  else if x=92 then
   match t with
   | []=>none
   |y::u=>
    if y=34\/y=92 then (lo u).map (y::·)
    else match u with
     | []=>none
     |z::v=>if kG y<16/\kG z<16 then (lo v).map (UInt8.ofNat (16*kG y+kG z)::·) else none
  else (lo t).map (x::·)
theorem Nc(x:UInt8)(t:List UInt8)(h1:x≠34)(h2:x≠92):lo (x::t)=(lo t).map (x::·):=by rw[lo.eq_def];simp[h1,h2]
theorem Ji(y:UInt8)(u:List UInt8)(h:y=34\/y=92):lo (92::y::u)=(lo u).map (y::·):=by
 rw[lo.eq_def];simp[h]
theorem acC(y z:UInt8)(v:List UInt8)(h:¬(y=34\/y=92))(h1:kG y<16)(h2:kG z<16):lo (92::y::z::v)=(lo v).map (UInt8.ofNat (16*kG y+kG z)::·):=by
 rw[lo.eq_def];simp[h,h1,h2]
theorem aai:∀(c r:List UInt8),(∀x∈c,128<=x.toNat)->lo (c++r)=(lo r).map (c++·)
 | [],r,_=>by simp
 |x::c,r,h=>by
  have hx:=h x (by simp);rw[List.cons_append,Nc x _ (by rintro rfl;simp at hx) (by rintro rfl;simp at hx),aai c r (fun y hy=>h y (by simp[hy])),Option.map_map];rfl
theorem aqE{c:List UInt8}(h:Chunk c)(r:List UInt8):lo (qc c++r)=(lo r).map (c++·):=by
 unfold qc qk;by_cases ho:kR c=true
 .rw[if_pos ho];by_cases he:c=[34]\/c=[92]
  .rw[if_pos he];rcases he with rfl|rfl
   .exact Ji 34 r (.inl rfl)
   .exact Ji 92 r (.inr rfl)
  .rw[if_neg he];simp only[List.flatten_cons,List.flatten_nil,List.append_nil];cases h with
   |ascii x hc hx=>
    subst hc;simp only[List.cons.injEq,and_true,not_or] at he;exact Nc x r he.1 he.2
   |bad x hc hx=>rw[hc,ao2 x hx] at ho;cases ho
   |many h2 hc hw hr=>exact aai c r hc
 .rw[if_neg ho];rw[Bool.not_eq_true] at ho;obtain ⟨x,rfl⟩:=ao3 h ho;have hb:=x.toNat_lt;obtain ⟨_,_,n1,n2,_⟩:=apf (x.toNat/16) (by omega);simp only[List.flatten_cons,List.flatten_nil,List.append_nil,List.cons_append,List.nil_append,List.getD_cons_zero];rw[acC _ _ _ (by simp[n1,n2]) (by rw[H7 _ (by omega)];omega) (by rw[H7 _ (by omega)];omega),H7 _ (by omega),H7 _ (by omega)];congr 2
  funext l
  congr 1
  have:16*(x.toNat/16)+x.toNat%16=x.toNat:=by omega
  rw[this];simp
theorem acB:∀(cs:List (List UInt8)) (r:List UInt8),(∀c∈cs,Chunk c)->lo (cs.flatMap qc++r)=(lo r).map (cs.flatten++·)
 | [],r,_=>by simp
 |c::cs,r,h=>by
  rw[List.flatMap_cons,List.append_assoc,aqE (h c (by simp)),acB cs r (fun k hk=>h k (by simp[hk])),Option.map_map];congr 1
  funext l
  simp
theorem anN(l:List UInt8):lo ((chunks l).flatMap qc)=some l:=by
 have:=acB (chunks l) [] (fun c hc=>amX c hc);rw[List.append_nil] at this;rw[this,XP];simp[lo]
def inner(s:List UInt8):List UInt8:=(s.drop 1).take (s.length-2)
theorem anU(l:List UInt8):inner (qs l)=(chunks l).flatMap qc:=by
 unfold inner qs;simp
theorem aoT(l:List UInt8):2<=(qs l).length/\(qs l).getD 0 0=34/\(qs l).getD ((qs l).length-1) 0=34:=by
 unfold qs;refine ⟨by simp,rfl,?_⟩;simp[List.getD_eq_getElem?_getD]
def iW(s:List UInt8):Option (List UInt8):=
 if 2<=s.length/\s.getD 0 0=34/\s.getD (s.length-1) 0=34 then
  match lo (inner s) with
  |some o=>if qs o=s then some o else none
  |none=>none
 else none
theorem aor(l:List UInt8):iW (qs l)=some l:=by
 unfold iW;rw[if_pos (aoT l),anU,anN];simp
theorem al3{s o:List UInt8}:iW s=some o↔qs o=s:=by
 constructor
 .intro h;unfold iW at h;split at h
  .split at h
   .split at h
    .cases h;assumption
    .cases h
   .cases h
  .cases h
 .rintro rfl;exact aor o
def wd(q t:Bool)(cur:List UInt8):List (List UInt8)->Option (List (List UInt8))
 | []=>if q=true\/cur=[] then none else some [cur]
 |c::cs=>
  if t then wd q false (cur++c) cs
  else if c=[34] then wd (!q) false (cur++c) cs
  else if q then wd q (decide (c=[92])) (cur++c) cs
  else if c=[32] then (if cur=[] then none else (wd false false [] cs).map (cur::·))
  else wd q false (cur++c) cs
def mH(s:List UInt8):Option (List (List UInt8)):=wd false false [] (chunks s)
def iN:List (List UInt8)->List UInt8
 | []=> []
 | [w]=>w
 |w::v::l=>w++32::iN (v::l)
theorem Nn:∀(cs:List (List UInt8)) (q t:Bool) (cur:List UInt8) (ws:List (List UInt8)),wd q t cur cs=some ws->iN ws=cur++cs.flatten/\ws≠[]/\∀w∈ws,w≠[]
 | [],q,t,cur,ws,h=>by
  unfold wd at h;split at h
  .cases h
  .rename_i hn;cases h;simp only[not_or] at hn;exact ⟨by simp[iN],by simp,by simpa using hn.2⟩
 |c::cs,q,t,cur,ws,h=>by
  have go:∀q t,wd q t (cur++c) cs=some ws->iN ws=cur++(c::cs).flatten/\ws≠[]/\∀w∈ws,w≠[]:=fun q t hq=>by
   have:=Nn cs q t (cur++c) ws hq;rw[List.flatten_cons,<-List.append_assoc];exact this
  unfold wd at h;split at h
  .exact go _ _ h
  .split at h
   .exact go _ _ h
   .split at h
    .exact go _ _ h
    .split at h
     .split at h
      .cases h
      .rename_i hc hcur;cases hr:wd false false [] cs with
       |none=>rw[hr] at h;cases h
       |some vs=>
        rw[hr] at h;simp only[Option.map_some,Option.some.injEq] at h;subst h;obtain ⟨h1,h2,h3⟩:=Nn cs _ _ _ _ hr;obtain ⟨v,vs',rfl⟩:∃v vs',vs=v::vs':=by cases vs with|nil=>exact absurd rfl h2|cons v vs'=>exact ⟨v,vs',rfl⟩
        refine ⟨?_,by simp,?_⟩
        .rw[iN,h1,hc];simp
        .intro w hw;rcases List.mem_cons.1 hw with rfl|hw
         .exact hcur
         .exact h3 w hw
     .exact go _ _ h
theorem ak3{s:List UInt8}{ws:List (List UInt8)}(h:mH s=some ws):iN ws=s/\ws≠[]/\∀w∈ws,w≠[]:=by
 have:=Nn _ _ _ _ _ h;rw[XP,List.nil_append] at this;exact this
end Go.Plain
namespace Go.Vc
theorem aI:type_of% @Nat.le_refl:=@Nat.le_refl
theorem aP:type_of% @Bool.and_eq_true:=@Bool.and_eq_true
theorem aT:type_of% @List.length_map.{0,0}:=@List.length_map.{0,0}
theorem bg:type_of% @List.length_append.{0}:=@List.length_append.{0}
theorem bn:type_of% @List.length_cons.{0}:=@List.length_cons.{0}
theorem bK:type_of% @Nat.zero_le:=@Nat.zero_le
theorem bO:type_of% @Int.toNat_natCast:=@Int.toNat_natCast
theorem bR:type_of% @decide_eq_true_eq:=@decide_eq_true_eq
theorem bQ:type_of% @Option.some.injEq.{0}:=@Option.some.injEq.{0}
theorem dF:type_of% @List.getElem?_eq_some_iff.{0}:=@List.getElem?_eq_some_iff.{0}
theorem zy:type_of% @List.length_nil.{0}:=@List.length_nil.{0}
theorem dI:type_of% @List.append_assoc.{0}:=@List.append_assoc.{0}
theorem dN:type_of% @List.getElem?_set_ne.{0}:=@List.getElem?_set_ne.{0}
theorem eB:type_of% @List.map_append.{0,0}:=@List.map_append.{0,0}
theorem eX:type_of% @List.take_length.{0}:=@List.take_length.{0}
theorem fu:type_of% @Array.getElem?_eq_some_iff.{0}:=@Array.getElem?_eq_some_iff.{0}
theorem fq:type_of% @Prod.mk.injEq.{0,0}:=@Prod.mk.injEq.{0,0}
theorem eZ:type_of% @List.map_cons.{0,0}:=@List.map_cons.{0,0}
theorem fJ:type_of% @List.nil_append.{0}:=@List.nil_append.{0}
theorem gD:type_of% @List.length_take.{0}:=@List.length_take.{0}
theorem gK:type_of% @List.mem_map.{0,0}:=@List.mem_map.{0,0}
theorem zx:type_of% @Nat.lt_of_lt_of_le:=@Nat.lt_of_lt_of_le
theorem iK:type_of% @List.getElem?_eq_getElem.{0}:=@List.getElem?_eq_getElem.{0}
theorem iJ:type_of% @List.cons.injEq.{0}:=@List.cons.injEq.{0}
theorem iI:type_of% @Nat.zero_add:=@Nat.zero_add
theorem iH:type_of% @List.mem_cons.{0}:=@List.mem_cons.{0}
theorem jc:type_of% @List.cons_append.{0}:=@List.cons_append.{0}
theorem iZ:type_of% @List.mem_append.{0}:=@List.mem_append.{0}
theorem jm:type_of% @List.take_succ_eq_append_getElem.{0}:=@List.take_succ_eq_append_getElem.{0}
theorem jl:type_of% @List.append_nil.{0}:=@List.append_nil.{0}
theorem jB:type_of% @List.take_of_length_le.{0}:=@List.take_of_length_le.{0}
theorem jH:type_of% @List.eq_nil_of_length_eq_zero.{0}:=@List.eq_nil_of_length_eq_zero.{0}
theorem zw:type_of% @List.getElem?_set_self.{0}:=@List.getElem?_set_self.{0}
theorem jI:type_of% @List.map_nil.{0,0}:=@List.map_nil.{0,0}
theorem jV:type_of% @List.length_drop.{0}:=@List.length_drop.{0}
theorem kP:type_of% @decide_eq_false_iff_not:=@decide_eq_false_iff_not
theorem kM:type_of% @List.getElem?_map.{0,0}:=@List.getElem?_map.{0,0}
theorem kL:type_of% @Nat.le_trans:=@Nat.le_trans
theorem kK:type_of% @Option.isSome_iff_exists.{0}:=@Option.isSome_iff_exists.{0}
theorem mh:type_of% @UInt8.toNat_ofNat':=@UInt8.toNat_ofNat'
theorem mR:type_of% @List.getElem?_take.{0}:=@List.getElem?_take.{0}
theorem mQ:type_of% @List.length_replicate.{0}:=@List.length_replicate.{0}
theorem nE:type_of% @List.all_eq_true.{0}:=@List.all_eq_true.{0}
theorem oD:type_of% @Nat.add_assoc:=@Nat.add_assoc
theorem pz:type_of% @List.drop_zero.{0}:=@List.drop_zero.{0}
theorem qy:type_of% @List.map_map.{0,0,0}:=@List.map_map.{0,0,0}
theorem qx:type_of% @Option.bind_eq_some_iff.{0,0}:=@Option.bind_eq_some_iff.{0,0}
theorem rD:type_of% @List.getElem?_append_left.{0}:=@List.getElem?_append_left.{0}
theorem rC:type_of% @List.drop_drop.{0}:=@List.drop_drop.{0}
theorem rA:type_of% @Bool.false_eq_true:=@Bool.false_eq_true
theorem sV:type_of% @List.drop_of_length_le.{0}:=@List.drop_of_length_le.{0}
theorem sU:type_of% @List.length_singleton.{0}:=@List.length_singleton.{0}
theorem sS:type_of% @Option.some.inj.{0}:=@Option.some.inj.{0}
theorem zu:type_of% @List.take_append_drop.{0}:=@List.take_append_drop.{0}
theorem uQ:type_of% @List.getElem?_drop.{0}:=@List.getElem?_drop.{0}
theorem uP:type_of% @List.drop_eq_getElem_cons.{0}:=@List.drop_eq_getElem_cons.{0}
theorem uO:type_of% @Option.map_eq_some_iff.{0,0}:=@Option.map_eq_some_iff.{0,0}
theorem uN:type_of% @Option.map_some.{0,0}:=@Option.map_some.{0,0}
theorem wz:type_of% @List.take_succ_cons.{0}:=@List.take_succ_cons.{0}
theorem wu:type_of% @List.drop_append.{0}:=@List.drop_append.{0}
theorem wo:type_of% @Nat.mod_eq_of_lt:=@Nat.mod_eq_of_lt
theorem yK:type_of% @List.getD_eq_getElem?_getD.{0}:=@List.getD_eq_getElem?_getD.{0}
theorem yJ:type_of% @List.getElem?_append_right.{0}:=@List.getElem?_append_right.{0}
theorem yO:type_of% @List.length_pos_iff.{0}:=@List.length_pos_iff.{0}
theorem yN:type_of% @List.mem_of_mem_take.{0}:=@List.mem_of_mem_take.{0}
theorem yM:type_of% @List.map_congr_left.{0,0}:=@List.map_congr_left.{0,0}
theorem yL:type_of% @Option.getD_some.{0}:=@Option.getD_some.{0}
theorem AP:type_of% @List.foldl_cons.{0,0}:=@List.foldl_cons.{0,0}
theorem AO:type_of% @List.drop_eq_nil_of_le.{0}:=@List.drop_eq_nil_of_le.{0}
theorem C8:type_of% @List.getElem?_eq_none.{0}:=@List.getElem?_eq_none.{0}
theorem CZ:type_of% @List.getElem?_set.{0}:=@List.getElem?_set.{0}
theorem CY:type_of% @List.ext_getElem?.{0}:=@List.ext_getElem?.{0}
theorem CX:type_of% @Nat.pow_le_pow_right:=@Nat.pow_le_pow_right
theorem Da:type_of% @List.flatten_append.{0}:=@List.flatten_append.{0}
theorem C9:type_of% @List.length_range:=@List.length_range
theorem Gc:type_of% @Array.getElem?_eq_getElem.{0}:=@Array.getElem?_eq_getElem.{0}
inductive C where
 |int (n:Int)
 |bool (b:Bool)
 |str (s:List UInt8)
 |ls (l:List C)
instance:Inhabited C:=⟨.int 0⟩
def C.toInt:C->Int| .int n=>n|_=>0
def C.toBool:C->Bool| .bool b=>b|_=>false
def C.toStr:C->List UInt8| .str s=>s|_=> []
def C.toList:C->List C| .ls l=>l|_=> []
def C.hd(c:C):C:=c.toList.headD (.int 0)
def C.tl(c:C):C:= .ls c.toList.tail
def C.mP:C->Nat->C->C
 |c,0,x=> .ls (x::c.tl.toList)
 |c,j+1,x=> .ls (c.hd::(c.tl.mP j x).toList)
@[simp] theorem C.toInt_int(n:Int):(C.int n).toInt=n:=rfl
@[simp] theorem C.GN(b:Bool):(C.bool b).toBool=b:=rfl
@[simp] theorem C.ar6(s:List UInt8):(C.str s).toStr=s:=rfl
@[simp] theorem C.kU(l:List C):(C.ls l).toList=l:=rfl
@[simp] theorem C.zP(x:C)(l:List C):(C.ls (x::l)).hd=x:=rfl
@[simp] theorem C.zI(x:C)(l:List C):(C.ls (x::l)).tl= .ls l:=rfl
inductive Sh where
 |int (k:IntKind)
 |bool
 |str
 |sl (e:Sh)
 |unit
 |pair (a b:Sh)
 |bP (t:TypeId) (s:Sh)
 |iX
 |eU (f:FuncId)
 |mp (k:IntKind) (s:Sh)
 deriving DecidableEq,Repr
def Sh.size:Sh->Nat
 | .int _| .bool| .str| .sl _| .bP _ _| .iX| .eU _| .mp _ _=>1
 | .unit=>0
 | .pair a b=>a.size+b.size
def Sh.isAgg:Sh->Bool
 | .unit| .pair _ _=>true
 |_=>false
def Sh.bZ:Sh->Nat->Option (Sh×Nat)
 | .pair a _,0=>some (a,0)
 | .pair a b,j+1=>(b.bZ j).map fun (s,o)=>(s,a.size+o)
 |_,_=>none
inductive E where
 |vq (i:Nat)
 |int (n:Int)
 |bool (b:Bool)
 |str (s:List UInt8)
 |nil
 |aK
 |cons (h t:E)
 |hd (e:E)
 |tl (e:E)
 |mP (j:Nat) (e x:E)
 |bin (op:BinOp) (k:IntKind) (x y:E)
 |raw (op:BinOp) (x y:E)
 |cmp (op:BinOp) (x y:E)
 |oZ (op:BinOp) (x y:E)
 |beq (x y:E)
 |not (x:E)
 |ite (c x y:E)
 |conv (k:IntKind) (x:E)
 |Cw (k:IntKind) (x:E)
 |len (x:E)
 |eT (x:E)
 |idx (l i:E)
 |uF (s i:E)
 |sub (l lo hi:E)
 |uD (s lo hi:E)
 |app (l m:E)
 |set (l i x:E)
 |rep (n x:E)
 |splice (l off m:E)
 |toStr (l:E)
 |ofStr (s:E)
 |cat (s t:E)
 |l9 (x y:E)
 |uJ (x y:E)
 |fits (k:IntKind) (x:E)
 |wK (s:Sh) (x y:E)
 |gB (m k z:E)
 |ql (m k:E)
 |iP (m k v:E)
 |vL (s p:E)
 |vV (s p:E)
 deriving Inhabited,DecidableEq
def gy(l:List C)(k:Int):Option C:=l.find? fun d=>d.hd.toInt==k
def lu:List C->Int->C->List C
 | [],k,v=> [.ls [.int k,v]]
 |d::l,k,v=>if d.hd.toInt=k then .ls [.int k,v]::l else d::lu l k v
def jO:Sh->C->C->Bool
 | .int _,x,y=>x.toInt==y.toInt
 | .bool,x,y=>x.toBool==y.toBool
 | .str,x,y=>x.toStr==y.toStr
 | .sl _,_,_=>false
 | .unit,_,_=>true
 | .pair a b,x,y=>jO a x.hd y.hd&&jO b x.tl y.tl
 |_,_,_=>false
def arith(op:BinOp)(k:IntKind)(x y:Int):Int:=
 match op with
 | .add=>k.wrap (x+y)
 | .sub=>k.wrap (x-y)
 | .mul=>k.wrap (x*y)
 | .quo=>k.wrap (x.tdiv y)
 | .rem=>x.tmod y
 | .and=>k.wrap (BitVec.ofInt k.bits x&&&BitVec.ofInt k.bits y).toNat
 | .or=>k.wrap (BitVec.ofInt k.bits x|||BitVec.ofInt k.bits y).toNat
 | .xor=>k.wrap (BitVec.ofInt k.bits x^^^BitVec.ofInt k.bits y).toNat
 | .andNot=>k.wrap (BitVec.ofInt k.bits x&&& ~~~BitVec.ofInt k.bits y).toNat
 | .shl=>k.wrap (x*2^(min y.toNat k.bits))
 | .shr=>x.fdiv (2^(min y.toNat k.bits))
 |_=>0
def nP(op:BinOp)(x y:Int):Int:=
 match op with
 | .add=>x+y
 | .sub=>x-y
 | .mul=>x*y
 |_=>0
def jk(op:BinOp)(x y:Int):Bool:=
 match op with
 | .eql=>x==y
 | .neq=>x !=y
 | .lss=>x<y
 | .leq=>x<=y
 | .gtr=>x>y
 | .geq=>x≥y
 |_=>false
def sQ(op:BinOp)(x y:List UInt8):Bool:=
 match op with
 | .eql=>x==y
 | .neq=> !(x==y)
 | .lss=>Op.bytesLess x y
 | .leq=>Op.bytesLess x y||x==y
 | .gtr=> !(Op.bytesLess x y||x==y)
 | .geq=> !Op.bytesLess x y
 |_=>false
def splice{α:Type}(l:List α)(k:Nat)(m:List α):List α:=l.take k++(m.take (l.length-k)++l.drop (k+m.length))
def bytesOf(l:List C):List UInt8:=l.map fun c=>UInt8.ofNat c.toInt.toNat
def ofBytes(s:List UInt8):List C:=s.map fun b=> .int b.toNat
def E.eval(ρ:List C):E->C
 | .vq i=>ρ.getD i default
 | .int n=> .int n
 | .bool b=> .bool b
 | .str s=> .str s
 | .nil=> .ls []
 | .aK=> .ls []
 | .cons h t=> .ls (h.eval ρ::(t.eval ρ).toList)
 | .hd e=>(e.eval ρ).hd
 | .tl e=>(e.eval ρ).tl
 | .mP j e x=>(e.eval ρ).mP j (x.eval ρ)
 | .bin op k x y=> .int (arith op k (x.eval ρ).toInt (y.eval ρ).toInt)
 | .raw op x y=> .int (nP op (x.eval ρ).toInt (y.eval ρ).toInt)
 | .cmp op x y=> .bool (jk op (x.eval ρ).toInt (y.eval ρ).toInt)
 | .oZ op x y=> .bool (sQ op (x.eval ρ).toStr (y.eval ρ).toStr)
 | .beq x y=> .bool ((x.eval ρ).toBool==(y.eval ρ).toBool)
 | .not x=> .bool !(x.eval ρ).toBool
 | .ite c x y=>if (c.eval ρ).toBool then x.eval ρ else y.eval ρ
 | .conv k x=> .int (k.wrap (x.eval ρ).toInt)
 | .Cw k x=> .int (k.wrap (BitVec.ofInt k.bits (if k.signed then-1 else k.max)^^^BitVec.ofInt k.bits (x.eval ρ).toInt).toNat)
 | .len x=> .int (x.eval ρ).toList.length
 | .eT x=> .int (x.eval ρ).toStr.length
 | .idx l i=>(l.eval ρ).toList.getD (i.eval ρ).toInt.toNat default
 | .uF s i=> .int ((s.eval ρ).toStr.getD (i.eval ρ).toInt.toNat 0).toNat
 | .sub l lo hi=> .ls (((l.eval ρ).toList.take (hi.eval ρ).toInt.toNat).drop (lo.eval ρ).toInt.toNat)
 | .uD s lo hi=> .str (((s.eval ρ).toStr.take (hi.eval ρ).toInt.toNat).drop (lo.eval ρ).toInt.toNat)
 | .app l m=> .ls ((l.eval ρ).toList++(m.eval ρ).toList)
 | .set l i x=> .ls ((l.eval ρ).toList.set (i.eval ρ).toInt.toNat (x.eval ρ))
 | .rep n x=> .ls (List.replicate (n.eval ρ).toInt.toNat (x.eval ρ))
 | .splice l off m=> .ls (Vc.splice (l.eval ρ).toList (off.eval ρ).toInt.toNat (m.eval ρ).toList)
 | .toStr l=> .str (bytesOf (l.eval ρ).toList)
 | .ofStr s=> .ls (ofBytes (s.eval ρ).toStr)
 | .cat s t=> .str ((s.eval ρ).toStr++(t.eval ρ).toStr)
 | .l9 x y=> .int (min (x.eval ρ).toInt (y.eval ρ).toInt)
 | .uJ x y=> .int (max (x.eval ρ).toInt (y.eval ρ).toInt)
 | .wK s x y=> .bool (jO s (x.eval ρ) (y.eval ρ))
 | .fits k x=> .bool (decide (k.min<=(x.eval ρ).toInt/\(x.eval ρ).toInt<=k.max))
 | .gB m k z=>match gy (m.eval ρ).toList (k.eval ρ).toInt with|some d=>d.tl.hd|none=>z.eval ρ
 | .ql m k=> .bool (gy (m.eval ρ).toList (k.eval ρ).toInt).isSome
 | .iP m k v=> .ls (lu (m.eval ρ).toList (k.eval ρ).toInt (v.eval ρ))
 | .vL s p=> .int (Utf8.decode ⟨(s.eval ρ).toStr.toArray⟩ (p.eval ρ).toInt.toNat).1
 | .vV s p=> .int (Utf8.decode ⟨(s.eval ρ).toStr.toArray⟩ (p.eval ρ).toInt.toNat).2
def E.bd(n:Nat):E->Bool
 | .vq i=>i<n
 | .int _| .bool _| .str _| .nil| .aK=>true
 | .hd e| .tl e| .not e| .conv _ e| .Cw _ e| .len e| .eT e| .toStr e| .ofStr e| .fits _ e=>e.bd n
 | .cons x y| .mP _ x y| .bin _ _ x y| .raw _ x y| .cmp _ x y| .oZ _ x y| .beq x y| .idx x y| .uF x y| .app x y| .rep x y| .cat x y| .l9 x y| .uJ x y| .wK _ x y| .ql x y| .vL x y| .vV x y=>x.bd n&&y.bd n
 | .ite x y z| .sub x y z| .uD x y z| .set x y z| .splice x y z| .gB x y z| .iP x y z=>x.bd n&&(y.bd n&&z.bd n)
theorem E.an3(ρ σ:List C)(e:E)(h:e.bd ρ.length=true):e.eval (ρ++σ)=e.eval ρ:=by
 induction e with
 |vq i=>simp[E.bd] at h;simp[E.eval,List.getD,rD h]
 |_=>simp_all[E.bd,E.eval]
end Go.Vc
namespace Go
def World.iA(w : World)(B : Nat -> Prop)(e : TypeId)(size : Nat)(v : Value)(n : Nat)(xs : List Value) : Prop :=
  xs.length = n * size /\
  ((v = .slice none 0 0 /\ n = 0) \/
   ∃ g cap cur, v = .slice (some ⟨g, 0, none⟩) n cap /\ B g /\ w.heap[g]? = some (.cells cur e (0, 0)) /\ n <= cap /\ cap <= maxLen /\ cur.size = cap * size /\ cur.toList.take (n * size) = xs)
end Go
namespace Go.Vc
open Go.RowKit
def kZ(w:World)(b off:Nat)(us:List Value):Prop:=∀j u,us[j]?=some u->w.cell? ⟨b,off+j,none⟩=some u
def qR(w:World)(n:Nat)(R:List Value->C->Prop)(b off:Nat)(l:List C):Prop:=
 ∀i c,l[i]?=some c->∃us,us.length=n/\kZ w b (off+i*n) us/\R us c
def Sh.mk(s:Sh)(vs:List Value):Value:=if s.isAgg then .agg vs.toArray else vs.headD undef
def mO(w:World)(b:Nat)(kk:IntKind)(l:List (Int×Value)):Prop:=
 ∃es clock,w.heap[b]?=some (.map es clock)/\es.toList.map (fun e=>(e.key,e.val))=l.map fun p=>(.int kk p.1,p.2)
def l8(R:Value->C->Prop):List (Int×Value)->List C->Prop
 | [],[]=>True
 |p::l,d::cs=>d.hd.toInt=p.1/\R p.2 d.tl.hd/\l8 R l cs
 |_,_=>False
def Rd(w:World)(N:Nat->Prop):Sh->List Value->C->Prop
 | .int k,vs,c=>vs=[.int k c.toInt]
 | .bool,vs,c=>vs=[.bool c.toBool]
 | .str,vs,c=>vs=[.string ⟨c.toStr.toArray⟩]
 | .sl e,vs,c=>∃a cap,vs=[.slice a c.toList.length cap]/\c.toList.length<=cap/\cap<=maxLen/\
   (c.toList≠[]->∃b off,a=some ⟨b,off,none⟩/\N b/\b<w.heap.size/\qR w e.size (Rd w N e) b off c.toList)
 | .unit,vs,_=>vs=[]
 | .pair a b,vs,c=>b.isAgg=true/\∃va vb,vs=va++vb/\Rd w N a va c.hd/\Rd w N b vb c.tl
 | .bP t s,vs,c=>∃us,vs=[.iface t (s.mk us)]/\Rd w N s us c
 | .iX,vs,_=>vs=[.nilIface]
 | .eU f,vs,_=>vs=[.func (.func f) #[] #[]]
 | .mp k s,vs,c=>∃g l,vs=[.map (some g)]/\N g/\g<w.heap.size/\mO w g k l/\l8 (fun v d=>Rd w N s [v] d) l c.toList
def bq(w:World)(N:Nat->Prop)(s:Sh)(v:Value)(c:C):Prop:=∃vs,Rd w N s vs c/\v=s.mk vs
def dH(w:World)(N:Nat->Prop):List (Sh×C)->List Value->Prop
 | [],vs=>vs=[]
 |(s,c)::l,vs=>∃v r,vs=v::r/\bq w N s v c/\dH w N l r
def JM(w:World)(N:Nat->Prop)(l:List (Sh×C))(v:Value):Prop:=
 ∃vs,dH w N l vs/\v=(if h:vs.length=1 then vs[0] else .tuple vs.toArray)
def tT(P:Program)(f:FuncId):Prop:=∃fn,P.funcs[f]?=some fn/\fn.body.isNone=false/\(fn.name== "runtime.NumGoroutine")=false
def bH:Value->Option Nat
 | .slice (some a) _ _=>some a.block
 | .pointer (some a)=>some a.block
 | .map (some b)=>some b
 |_=>none
def bF(w:World)(N:Nat->Prop)(s:Sh):List Value->List C->Prop
 |xs,[]=>xs=[]
 |xs,c::l=>∃u r,xs=u++r/\Rd w N s u c/\bF w N s r l
def pack(vs:List Value):Value:=if h:vs.length=1 then vs[0] else .tuple vs.toArray
def Ou(c:Nat):Int:=
 if c<128 then 240 else if c<194 then 241 else if c<224 then 2 else if c=224 then 19 else if c=237 then 35 else if c<240 then 3 else if c=240 then 52 else if c<244 then 4 else if c=244 then 68 else 241
def Nt:List Int:=[128,191,160,191,128,159,144,191,128,143,0,0,0,0,0,0,0,0,0,0,0,0,0,0,0,0,0,0,0,0,0,0]
def ace:List Int:=[1,10,100,1000,10000,100000,1000000,10000000,100000000,1000000000,10000000000,100000000000,1000000000000,10000000000000,100000000000000,1000000000000000,10000000000000000,100000000000000000,1000000000000000000,10000000000000000000]
def tabs:List (String×List Value):=[("unicode/utf8.first",(List.range 256).map fun c=> .int .u8 (Ou c)),("unicode/utf8.acceptRanges",Nt.map fun n=> .int .u8 n)]
def qN(P:Program)(n:String):Option Nat:=P.globals.findIdx? fun y=>y.name==n
def Mx:String:= "internal/strconv.uint64pow10"
def Jb:List (String×List Value):=[(Mx,ace.map fun n=> .int .u64 n),("crossbar/rtcp.kinds",[1,1,2,3,4].map fun n=> .int .i64 n),
 ("crossbar/feed.codes",[1,205,1,2,205,15,3,206,1,4,206,4,5,206,15].map fun n=> .int .i64 n)]
def KWp(P:Program)(w:World):Prop:=∀x∈Jb,∀g,qN P x.1=some g->∃t fz,w.heap[g]?=some (.cells x.2.toArray t fz)
def KW(P:Program)(w:World):Prop:=(∀x∈tabs,∀g,qN P x.1=some g->kZ w g 0 x.2)/\KWp P w
def uW(P:Program)(g:Nat):Prop:=(∃x∈tabs,qN P x.1=some g)\/∃x∈Jb,qN P x.1=some g
theorem amY{w w':World}{a:Addr}(h:w'.heap[a.block]?=w.heap[a.block]?):w'.cell? a=w.cell? a:=by unfold World.cell?;rw[h]
theorem KW.keep{P:Program}{w w':World}(h:KW P w)(hk:∀g,uW P g->w'.heap[g]?=w.heap[g]?):KW P w':=by
 refine ⟨fun x hx g hg j u hu=>?_,fun x hx g hg=>?_⟩
 .rw[amY (hk g (.inl ⟨x,hx,hg⟩))];exact h.1 x hx g hg j u hu
 .rw[hk g (.inr ⟨x,hx,hg⟩)];exact h.2 x hx g hg
theorem aox:∀x∈tabs,∃u,x.2[0]?=some u:=by
 intro x hx;simp only[tabs,iH,List.mem_nil_iff,or_false] at hx;rcases hx with rfl|rfl
 .exact ⟨_,rfl⟩
 .exact ⟨_,rfl⟩
theorem KW.lt{P:Program}{w:World}(h:KW P w){g:Nat}(hg:uW P g):g<w.heap.size:=by
 rcases hg with ⟨x,hx,hg⟩|⟨x,hx,hg⟩
 .obtain ⟨u,hu⟩:=aox x hx;have:=h.1 x hx g hg 0 u hu;rcases Nat.lt_or_ge g w.heap.size with h'|h'
  .exact h'
  .simp[World.cell?,Array.getElem?_eq_none h'] at this
 .obtain ⟨t,fz,h2⟩:=h.2 x hx g hg;exact (fu.1 h2).1
def ase(P:Program):Bool:=(tabs.all fun x=>(qN P x.1).isNone)&&Jb.all fun x=>(qN P x.1).isNone
theorem KW.below{P:Program}{w w':World}(h:KW P w)(hb:Below w.heap.size w w'):KW P w':=h.keep fun g hg=>hb.block g (h.lt hg)
def Qs(P:Program)(f:FuncId)(args aF:List (Sh×C)):Prop:=
 tT P f/\∀(w:World) (N:Nat->Prop) (vs:List Value),KW P w->dH w N args vs->
  Calls P f vs.toArray w fun e w'=>∃v,e= .returned v/\JM w' (fun b=>N b\/w.heap.size<=b) aF v/\Below w.heap.size w w'
def Behind(N:Nat->Prop)(w:World)(v0 v1:Value)(b:Nat):Prop:=(N b\/w.heap.size<=b\/bH v0=some b)/\bH v1≠some b
def GC(P:Program)(f:FuncId)(args aF:List (Sh×C)):Prop:=
 ∃s c0 args' c1 p9,args=(.sl s,c0)::args'/\aF=(.sl s,c1)::p9/\tT P f/\
  ∀(w:World) (N:Nat->Prop) (et:TypeId) (xs:List Value) (v0:Value) (vs:List Value),
   KW P w->(∀g,bH v0=some g->¬uW P g)->w.iA (fun _=>True) et s.size v0 c0.toList.length xs->bF w N s xs c0.toList->(∀g,bH v0=some g->¬N g)->dH w N args' vs->
   Calls P f (v0::vs).toArray w fun e w'=>∃v1 vr dV xs',e= .returned (pack (v1::vr))/\w.grownBy w' (bH v0)/\
    w'.iA (fun g=>w.heap.size<=g\/bH v0=some g) dV s.size v1 c1.toList.length xs'/\bF w' (Behind N w v0 v1) s xs' c1.toList/\dH w' (Behind N w v0 v1) p9 vr
def FC(P:Program)(f:FuncId)(args aF:List (Sh×C)):Prop:=
 ∃s c1 p9,aF=(.sl s,c1)::p9/\tT P f/\
  ∀(w:World) (N:Nat->Prop) (vs:List Value),KW P w->dH w N args vs->
   Calls P f vs.toArray w fun e w'=>∃v1 vr dV xs',e= .returned (pack (v1::vr))/\Below w.heap.size w w'/\
    w'.iA (fun g=>w.heap.size<=g) dV s.size v1 c1.toList.length xs'/\bF w' (Behind N w (.slice none 0 0) v1) s xs' c1.toList/\dH w' (Behind N w (.slice none 0 0) v1) p9 vr
def yI:Sh->List Value->Prop
 | .sl _,vs=>vs=[.slice none 0 0]
 | .pair a b,vs=>∃va vb,vs=va++vb/\va.length=a.size/\yI a va/\yI b vb
 | .bP _ _,_| .mp _ _,_=>False
 |_,_=>True
def NC(P:Program)(f:FuncId)(args aF:List (Sh×C)):Prop:=
 ∃s c,aF=[(s,c)]/\tT P f/\∀(w:World) (N:Nat->Prop) (vs:List Value),KW P w->dH w N args vs->
  Calls P f vs.toArray w fun e w'=>∃us,e= .returned (s.mk us)/\Rd w' (fun b=>N b\/w.heap.size<=b) s us c/\yI s us/\Below w.heap.size w w'
def PC(P:Program)(f:Nat)(args aF:List (Sh×C)):Prop:=
 if f<1000000 then Qs P f args aF else if f<2000000 then GC P (f-1000000) args aF else if f<3000000 then FC P (f-2000000) args aF else NC P (f-3000000) args aF
theorem PC.oF{P:Program}{f:Nat}{args aF:List (Sh×C)}(hf:f<1000000)(h:Qs P f args aF):PC P f args aF:=by unfold PC;rw[if_pos hf];exact h
theorem PC.mq{P:Program}{f:Nat}{args aF:List (Sh×C)}(hf:f<1000000)(h:PC P f args aF):Qs P f args aF:=by unfold PC at h;rwa[if_pos hf] at h
theorem PC.ofG{P:Program}{f:Nat}{args aF:List (Sh×C)}(hf:f<1000000)(h:GC P f args aF):PC P (1000000+f) args aF:=by
 unfold PC;rw[if_neg (by omega),if_pos (by omega),Nat.add_sub_cancel_left];exact h
theorem PC.toG{P:Program}{f:Nat}{args aF:List (Sh×C)}(hf:f<1000000)(h:PC P (1000000+f) args aF):GC P f args aF:=by
 unfold PC at h;rwa[if_neg (by omega),if_pos (by omega),Nat.add_sub_cancel_left] at h
theorem PC.ofF{P:Program}{f:Nat}{args aF:List (Sh×C)}(hf:f<1000000)(h:FC P f args aF):PC P (2000000+f) args aF:=by
 unfold PC;rw[if_neg (by omega),if_neg (by omega),if_pos (by omega),Nat.add_sub_cancel_left];exact h
theorem PC.toF{P:Program}{f:Nat}{args aF:List (Sh×C)}(hf:f<1000000)(h:PC P (2000000+f) args aF):FC P f args aF:=by
 unfold PC at h;rwa[if_neg (by omega),if_neg (by omega),if_pos (by omega),Nat.add_sub_cancel_left] at h
theorem PC.ofN{P:Program}{f:Nat}{args aF:List (Sh×C)}(h:NC P f args aF):PC P (3000000+f) args aF:=by
 unfold PC;rw[if_neg (by omega),if_neg (by omega),if_neg (by omega),Nat.add_sub_cancel_left];exact h
theorem PC.toN{P:Program}{f:Nat}{args aF:List (Sh×C)}(h:PC P (3000000+f) args aF):NC P f args aF:=by
 unfold PC at h;rwa[if_neg (by omega),if_neg (by omega),if_neg (by omega),Nat.add_sub_cancel_left] at h
theorem Rd.length{w:World}{N:Nat->Prop}:∀ {s:Sh} {vs:List Value} {c:C},Rd w N s vs c->vs.length=s.size
 | .int _,_,_,h| .bool,_,_,h| .str,_,_,h=>by simp only[Rd] at h;subst h;rfl
 | .sl _,_,_,h=>by obtain ⟨_,_,rfl,_⟩:=h;rfl
 | .unit,_,_,h=>by simp only[Rd] at h;subst h;rfl
 | .pair _ _,_,_,h=>by
  obtain ⟨_,va,vb,rfl,ha,hb⟩:=h;simp[Sh.size,Rd.length ha,Rd.length hb]
 | .bP _ _,_,_,h=>by obtain ⟨_,rfl,_⟩:=h;rfl
 | .iX,_,_,h| .eU _,_,_,h=>by simp only[Rd] at h;subst h;rfl
 | .mp _ _,_,_,h=>by obtain ⟨_,_,rfl,_⟩:=h;rfl
theorem Rd.tX{w:World}{N:Nat->Prop}{s:Sh}{vs:List Value}{c c':C}(hs:s.isAgg=true)(hc:c.toList=c'.toList)(h:Rd w N s vs c):Rd w N s vs c':=by
 cases s with
 |unit=>exact h
 |pair a b=>
  obtain ⟨h0,va,vb,h1,h2,h3⟩:=h;refine ⟨h0,va,vb,h1,?_,?_⟩
  .simpa [C.hd,hc] using h2
  .simpa [C.tl,hc] using h3
 |_=>cases hs
theorem kZ.mono{w w':World}{b off:Nat}{us:List Value}(h:kZ w b off us)(hb:w'.heap[b]?=w.heap[b]?):kZ w' b off us:=
 fun j u hu=>(World.cell?_of_block (w:=w) (a:=⟨b,off+j,none⟩) hb).trans (h j u hu)
theorem mO.same{w w':World}{b:Nat}{kk:IntKind}{l:List (Int×Value)}(h:mO w b kk l)(hb:w'.heap[b]?=w.heap[b]?):mO w' b kk l:=by
 obtain ⟨es,clock,h1,h2⟩:=h;exact ⟨es,clock,hb.trans h1,h2⟩
theorem l8.imp{R R':Value->C->Prop}(h:∀v d,R v d->R' v d):∀ {l:List (Int×Value)} {cs:List C},l8 R l cs->l8 R' l cs
 | [],[],_=>trivial
 |_::_,_::_,⟨h1,h2,h3⟩=>⟨h1,h _ _ h2,l8.imp h h3⟩
 | [],_::_,h=>h.elim
 |_::_,[],h=>h.elim
theorem Rd.mono{w w':World}{N N':Nat->Prop}(hs:w.heap.size<=w'.heap.size)(hk:∀b,N b->b<w.heap.size->w'.heap[b]?=w.heap[b]?/\N' b):
  ∀ {s:Sh} {vs:List Value} {c:C},Rd w N s vs c->Rd w' N' s vs c
 | .int _,_,_,h| .bool,_,_,h| .str,_,_,h=>h
 | .sl e,_,_,⟨a,cap,h1,h2,h3,h4⟩=>⟨a,cap,h1,h2,h3,fun hne=>by
   obtain ⟨b,off,ha,hn,hlt,hr⟩:=h4 hne;refine ⟨b,off,ha,(hk b hn hlt).2,zx hlt hs,fun i c hc=>?_⟩;obtain ⟨us,h5,h6,h7⟩:=hr i c hc;exact ⟨us,h5,h6.mono (hk b hn hlt).1,Rd.mono hs hk h7⟩⟩
 | .unit,_,_,h=>h
 | .pair _ _,_,_,⟨h0,va,vb,h1,h2,h3⟩=>⟨h0,va,vb,h1,Rd.mono hs hk h2,Rd.mono hs hk h3⟩
 | .bP _ _,_,_,⟨us,h1,h2⟩=>⟨us,h1,Rd.mono hs hk h2⟩
 | .iX,_,_,h| .eU _,_,_,h=>h
 | .mp _ _,_,_,⟨g,l,h1,h2,h3,h4,h5⟩=>⟨g,l,h1,(hk g h2 h3).2,zx h3 hs,h4.same (hk g h2 h3).1,h5.imp fun _ _ h=>Rd.mono hs hk h⟩
theorem bq.mono{w w':World}{N N':Nat->Prop}(hs:w.heap.size<=w'.heap.size)(hk:∀b,N b->b<w.heap.size->w'.heap[b]?=w.heap[b]?/\N' b)
  {s:Sh} {v:Value} {c:C} (h:bq w N s v c):bq w' N' s v c:=let ⟨vs,h1,h2⟩:=h;⟨vs,h1.mono hs hk,h2⟩
theorem dH.mono{w w':World}{N N':Nat->Prop}(hs:w.heap.size<=w'.heap.size)(hk:∀b,N b->b<w.heap.size->w'.heap[b]?=w.heap[b]?/\N' b):
  ∀ {l:List (Sh×C)} {vs:List Value},dH w N l vs->dH w' N' l vs
 | [],_,h=>h
 |(_,_)::_,_,⟨v,r,h1,h2,h3⟩=>⟨v,r,h1,h2.mono hs hk,h3.mono hs hk⟩
abbrev aM:=List (E×Bool)
def aS(ρ:List C)(p:aM):Prop:=∀x∈p,(x.1.eval ρ).toBool=x.2
def uf(n:Nat)(p:aM):Bool:=p.all fun x=>x.1.bd n
def tV(p q:aM):Bool:=p.all fun x=>q.any fun y=>decide (x.1=y.1)&&x.2==y.2
inductive VC where
 |fail (why:Nat)
 |aj (p:aM) (e:E) (k:VC)
 |call (p:aM) (f:Nat) (args:List (Sh×E)) (aF:List Sh) (k:VC)
 |cond (e:E) (a b:VC)
 |wM (e:E) (a b:VC)
 |ret (rs:List (Sh×E))
 |loop (init:List E) (body:VC)
 |back (lvl:Nat) (es:List E)
 |cut (n:Nat) (body rest:VC)
def dS(ρ:List C)(l:List (Sh×E)):List (Sh×C):=l.map fun x=>(x.1,x.2.eval ρ)
def VC.holds(P:Program)(Post:List (Sh×C)->Prop):List (List C->Prop)->List C->VC->Prop
 |_,_,.fail _=>False
 |B,ρ,.aj p e k=>(aS ρ p->(e.eval ρ).toBool=true)/\k.holds P Post B ρ
 |B,ρ,.call p f args aF k=>∃res:List C,res.length=aF.length/\(aS ρ p->PC P f (dS ρ args) (aF.zip res))/\k.holds P Post B (ρ++res)
 |B,ρ,.cond e a b=>((e.eval ρ).toBool=true->a.holds P Post B ρ)/\((e.eval ρ).toBool=false->b.holds P Post B ρ)
 |B,ρ,.wM e a b=>((e.eval ρ).toList=[]->a.holds P Post B ρ)/\b.holds P Post B ρ
 |_,ρ,.ret rs=>Post (dS ρ rs)
 |B,ρ,.loop init body=>∃(I:List C->Prop) (μ:List C->Nat),I (init.map (·.eval ρ))/\
   ∀vs,vs.length=init.length->I vs->body.holds P Post (B++ [fun vs'=>I vs'/\μ vs'<μ vs]) (ρ++vs)
 |B,ρ,.back lvl es=>(B.getD lvl fun _=>False) (es.map (·.eval ρ))
 |B,ρ,.cut n body rest=>∃I:List C->Prop,body.holds P Post (B++ [I]) ρ/\∀vs,vs.length=n->I vs->rest.holds P Post B (ρ++vs)
end Go.Vc
namespace Go.Vc
inductive SX where
 |none
 |dat (s:Sh) (e:E)
 |res (l:List (Sh×E))
 |yA (r:Nat) (n:E) (l:List (Sh×E))
 |full (r:Nat) (n:E)
 |view (r:Nat) (off n:E)
 |ref (r:Nat) (i:E) (fo:Nat) (s:Sh) (bZ:Option Nat)
 |ptr (s:Sh) (e:E)
 |fn (f:Nat)
 |Av (e:E)
 |uI (t:TypeId) (s:Sh) (name:String)
 |rF (r:Nat)
 |uT (r:Nat)
 |wE (s p:E)
 |okF
 deriving DecidableEq
structure TS where
 bM:aM
 sx:SX
 deriving DecidableEq
inductive LB where
 |none
 |dead
 |row (s:Sh) (e:E)
 |box (cs:List SX)
 |mp (k:IntKind) (s:Sh) (e:E)
 |sit (s p:E)
 deriving DecidableEq
structure aG where
 lb:LB
 fI:Bool
 bM:aM
 deriving DecidableEq
structure SS where
 tmps:List TS
 blks:List aG
 nv:Nat
 deriving DecidableEq
inductive Ob where
 |aj (p:aM) (e:E)
 |call (p:aM) (f:Nat) (args:List (Sh×E)) (aF:List Sh)
def Ob.vars:Ob->Nat
 | .aj .. =>0
 | .call _ _ _ aF=>aF.length
inductive dM where
 |aV (r:Nat)
 |put (r:Nat) (b:aG)
structure Out where
 x:SX
 cmds:List dM:=[]
 nv:Nat:=0
 obs:List Ob:=[]
def JQ(P:Program):Nat->TypeId->Option Sh
 |0,_=>none
 |n+1,t=>
  match P.underlying t with
  |some .bool=>some .bool
  |some (.int k)=>some (.int k)
  |some .string=>some .str
  |some (.slice e)=>(JQ P n e).map .sl
  |some (.struct fs)=>fs.toList.foldr (fun f acc=>match JQ P n f.type,acc with|some a,some b=>some (.pair a b)|_,_=>none) (some .unit)
  |some (.array k e)=>if k<=64 then (JQ P n e).map fun s=>(List.replicate k s).foldr .pair .unit else none
  |_=>none
def sW(P:Program)(t:TypeId):Option Sh:=JQ P 8 t
def ni:Sh->List Value->Option (E×List Value)
 | .int k,.int k' n::r=>if k=k' then some (.int n,r) else none
 | .bool,.bool b::r=>some (.bool b,r)
 | .str,.string s::r=>some (.str s.data.toList,r)
 | .sl _,.slice none 0 0::r=>some (.aK,r)
 | .unit,r=>some (.nil,r)
 | .pair a b,vs=>if b.isAgg then match ni a vs with
  |some (x,r)=>match ni b r with
   |some (y,r')=>some (.cons x y,r')
   |none=>none
  |none=>none
  else none
 |_,_=>none
def N9(s:Option Sh)(v:Value):Option SX:=
 match v,s with
 | .int k n,_=>some (.dat (.int k) (.int n))
 | .bool b,_=>some (.dat .bool (.bool b))
 | .string s,_=>some (.dat .str (.str s.data.toList))
 | .nilIface,_=>some (.dat .iX .nil)
 | .map none,_=>some .none
 | .slice none 0 0,some (.sl e)=>some (.dat (.sl e) .aK)
 | .agg cs,some s=>if s.isAgg then match ni s cs.toList with|some (e,[])=>some (.dat s e)|_=>none else none
 |_,_=>none
structure RB where
 lb:LB
 bM:aM
abbrev Ev:=aM->Operand->TypeId->Option SX
abbrev Rb:=Nat->Option RB
def rowOf(rb:Rb)(pc:aM)(r:Nat):Option (Sh×E):=
 match rb r with
 |some ⟨.row s e,p⟩=>if tV p pc then some (s,e) else none
 |_=>none
def mapOf(rb:Rb)(pc:aM)(r:Nat):Option (IntKind×Sh×E):=
 match rb r with
 |some ⟨.mp k s e,p⟩=>if tV p pc then some (k,s,e) else none
 |_=>none
def JC:E->E| .aK=> .nil|e=>e
def iF(rb:Rb)(pc:aM):SX->Option (Sh×E×List Nat)
 | .dat s e=>some (s,e,[])
 | .full r _=>match rowOf rb pc r with|some (s,e)=>some (.sl s,JC e,[r])|none=>none
 | .view r off n=>match rowOf rb pc r with|some (s,e)=>some (.sl s,.sub e off (.raw .add off n),[r])|none=>none
 | .fn f=>some (.eU f,.nil,[])
 | .rF r=>match mapOf rb pc r with|some (k,s,e)=>some (.mp k s,e,[r])|none=>none
 |_=>none
def Sh.fQ:Sh->Bool
 | .int _| .bool| .str| .unit| .iX| .eU _=>true
 | .sl _| .mp _ _=>false
 | .pair a b=>a.fQ&&b.fQ
 | .bP _ _=>false
def uH:E->E| .cons h _=>h|e=> .hd e
def uG:E->E| .cons _ t=>t|e=> .tl e
def AJ(e:E):Nat->E|0=>uH e|j+1=>AJ (uG e) j
def flat:Sh->E->List SX
 | .unit,_=> []
 | .pair a b,e=>flat a (uH e)++flat b (uG e)
 |s,e=> [.dat s e]
def oO(rb:Rb)(pc:aM)(s:Sh):List SX->Option (E×List Nat×List SX)
 | []=>none
 |x::l=>match iF rb pc x with
  |some (s',e,f)=>if s=s' then some (e,f,l) else none
  |none=>none
def dK(rb:Rb)(pc:aM):Sh->List SX->Option (E×List Nat×List SX)
 | .unit,l=>some (.nil,[],l)
 | .pair a b,l=>if b.isAgg then match dK rb pc a l with
  |some (x,f,r)=>match dK rb pc b r with
   |some (y,g,r')=>some (.cons x y,f++g,r')
   |none=>none
  |none=>none
  else none
 |s,cs=>oO rb pc s cs
def OD(P:Program)(t:TypeId):Bool:=match P.underlying t with|some (.struct _)|some (.array _ _)=>true|_=>false
def iB(P:Program)(t:TypeId)(s:Sh):Bool:=(P.info? t).isSome&&(P.underlying t).isSome&&P.cellsOf t==s.size&&OD P t==s.isAgg
def nu(P:Program)(t:TypeId):Option TypeId:=match P.underlying t with|some (.slice e)=>some e|_=>none
def zeroE(P:Program)(t:TypeId)(s:Sh):Option E:=
 match (P.info? t).bind (·.zero) with
 |some v=>match ni s v.cells.toList with|some (e,[])=>some e|_=>none
 |none=>none
def aj(pc:aM)(e:E):List Ob:=
 match e with
 | .cmp .geq (.int a) (.int b)=>if a≥b then [] else [.aj pc e]
 | .cmp .neq (.int a) (.int b)=>if a !=b then [] else [.aj pc e]
 | .cmp .leq (.int a) (.int b)=>if a<=b then [] else [.aj pc e]
 |_=> [.aj pc e]
def zQ(P:Program)(f:Field)(s:Sh)(off:Nat):Bool:=f.offset=off&&iB P f.type s
def eqFields(P:Program)(R:TypeId->Sh->Bool):List Field->Sh->Nat->Bool
 | [],.unit,_=>true
 |f::fs,.pair a b,off=>zQ P f a off&&f.name != "_" &&R f.type a&&eqFields P R fs b (off+a.size)
 |_,_,_=>false
def CU(P:Program):Nat->TypeId->Sh->Bool
 |0,_,_=>false
 |n+1,t,s=>
  match P.underlying t,s with
  |some .bool,.bool=>true
  |some (.int k),.int k'=>k=k'
  |some .string,.str=>true
  |some (.struct fs),s=> !P.stoodInHeld t&&eqFields P (CU P n) fs.toList s 0
  |_,_=>false
def vX(P:Program)(raw:Bool)(pc:aM)(op:BinOp)(xt:TypeId)(s:Sh)(x:E)(s':Sh)(y:E):Option Out:=
 match s,s' with
 | .int k,.int k'=>
  match op with
  | .shl| .shr=>some {x:= .dat (.int k) (.bin op k x y),obs:=aj pc (.cmp .geq y (.int 0))}
  |_=>
   if k≠k' then none else
   match op with
   | .add| .sub| .mul=>
    if raw&&k== .i64 then some {x:= .dat (.int k) (.raw op x y),obs:=[.aj pc (.fits k (.raw op x y))]}
    else some {x:= .dat (.int k) (.bin op k x y)}
   | .quo| .rem=>some {x:= .dat (.int k) (.bin op k x y),obs:=aj pc (.cmp .neq y (.int 0))}
   | .and| .or| .xor| .andNot=>some {x:= .dat (.int k) (.bin op k x y)}
   |_=>some {x:= .dat .bool (.cmp op x y)}
 | .str,.str=>
  match op with
  | .add=>some {x:= .dat .str (.cat x y),obs:=[.aj pc (.fits .i64 (.raw .add (.eT x) (.eT y)))]}
  | .eql| .neq| .lss| .leq| .gtr| .geq=>some {x:= .dat .bool (.oZ op x y)}
  |_=>none
 | .bool,.bool=>
  match P.underlying xt,op with
  |some .bool,.eql=>some {x:= .dat .bool (.beq x y)}
  |some .bool,.neq=>some {x:= .dat .bool (.not (.beq x y))}
  |_,_=>none
 | .sl _,.sl _=>
  match op,y,P.underlying xt with
  | .eql,.aK,some (.slice _)=>some {x:= .Av x}
  |_,_,_=>none
 |s,s'=>
  if s=s'&&s.isAgg&&CU P 5 xt s&& !P.eqGuardType P.depth xt then match op with
   | .eql=>some {x:= .dat .bool (.wK s x y)}
   | .neq=>some {x:= .dat .bool (.not (.wK s x y))}
   |_=>none
  else none
def BI(pc:aM)(i n:E):List Ob:=aj pc (.cmp .geq i (.int 0))++aj pc (.cmp .lss i n)
def Cr(pc:aM)(lo hi n:E):List Ob:=aj pc (.cmp .geq lo (.int 0))++(aj pc (.cmp .leq lo hi)++aj pc (.cmp .leq hi n))
def ny:E->E
 | .nil=> .int 0
 | .aK=> .int 0
 | .cons _ t=>match ny t with| .int n=> .int (n+1)|_=> .len (.cons (.int 0) t)
 |e=> .len e
def lq(ev:Ev)(rb:Rb)(pc:aM):List Operand->List TypeId->Option (List (Sh×E)×List Nat)
 | [],_=>some ([],[])
 |x::xs,ts=>match (ev pc x (ts.headD 0)).bind (iF rb pc),lq ev rb pc xs ts.tail with
  |some (s,e,f),some (l,g)=>some ((s,e)::l,f++g)
  |_,_=>none
def Ae(P:Program)(t:TypeId):Option (List Sh):=
 match P.underlying t with
 |some (.tuple ts)=>ts.toList.mapM (sW P)
 |_=>(sW P t).map ([·])
def nU:Option SX->Option (IntKind×E)
 |some (.dat (.int k) e)=>some (k,e)
 |_=>none
def Cu:List E->E| []=> .nil|e::l=> .cons e (Cu l)
def fieldsOf:Sh->E->Option (List (Sh×E))
 | .unit,_=>some []
 | .pair a b,e=>(fieldsOf b (uG e)).map ((a,uH e)::·)
 |_,_=>none
def lI(ev:Ev)(rb:Rb)(pc:aM)(ft:Nat->TypeId):List (Sh×E)->List (Nat×Operand)->Option (List (Sh×E)×List Nat)
 |l,[]=>some (l,[])
 |l,(i,o)::r=>match (ev pc o (ft i)).bind (iF rb pc),l[i]? with
  |some (s,e,f),some (s',_)=>if s=s' then (lI ev rb pc ft (l.set i (s,e)) r).map fun (l,g)=>(l,f++g) else none
  |_,_=>none
def lZ(ev:Ev)(rb:Rb)(pc:aM)(t:TypeId)(s:Sh):Nat->List (Nat×Operand)->Option (E×List Nat)
 |_,[]=>some (.nil,[])
 |k,(i,o)::r=>if i≠k then none else match (ev pc o t).bind (iF rb pc),lZ ev rb pc t s (k+1) r with
  |some (s',e,f),some (es,g)=>if s=s' then some (.cons e es,f++g) else none
  |_,_=>none
def FD(c:Option SX)(a b:E->Option SX):Option Out:=
 match c with
 |some (.dat .bool ec)=>match a ec,b ec with
  |some (.dat s ea),some (.dat s' eb)=>if s=s' then some {x:= .dat s (.ite ec ea eb)} else none
  |_,_=>none
 |_=>none
def Gd(op:UnOp)(x:Option SX):Option Out:=
 match op,x with
 | .not,some (.dat .bool e)=>some {x:= .dat .bool (.not e)}
 | .neg,some (.dat (.int k) e)=>some {x:= .dat (.int k) (.bin .sub k (.int 0) e)}
 | .xor,some (.dat (.int k) e)=>some {x:= .dat (.int k) (.Cw k e)}
 |_,_=>none
def Ct(P:Program)(rb:Rb)(pc:aM)(src dst:TypeId)(x:Option SX):Option Out:=
 match P.underlying src,P.underlying dst,x with
 |some _,some (.int k),some (.dat (.int _) e)=>some {x:= .dat (.int k) (.conv k e)}
 |some .string,some .string,some (.dat .str e)=>some {x:= .dat .str e}
 |some (.slice t),some .string,some x=>match P.underlying t,iF rb pc x with
  |some (.int .u8),some (.sl (.int .u8),e,_)=>some {x:= .dat .str (.toStr e)}
  |_,_=>none
 |some .string,some (.slice t),some (.dat .str e)=>match P.underlying t with
  |some (.int .u8)=>some {x:= .dat (.sl (.int .u8)) (.ofStr e),obs:=[.aj pc (.fits .i64 (.eT e))]}
  |_=>none
 |_,_,_=>none
def E5(P:Program)(t:TypeId)(j:Nat)(x:Option SX):Option Out:=
 match x,P.underlying t with
 |some (.dat s e),some (.struct fs)=>match s.bZ j,fs[j]? with
  |some (s',off),some f=>if zQ P f s' off then some {x:= .dat s' (AJ e j)} else none
  |_,_=>none
 |_,_=>none
def vv(P:Program):List Field->Sh->Nat->Bool
 | [],.unit,_=>true
 |f::fs,.pair a b,off=>zQ P f a off&&vv P fs b (off+a.size)
 |_,_,_=>false
def abo(P:Program)(t:TypeId):Option (List Field):=
 match P.underlying t with
 |some (.struct fs)=>some fs.toList
 |some (.array n e)=>if (P.info? e).isSome then some ((List.range n).map fun i=> {(default:Field) with type:=e,offset:=i*P.cellsOf e}) else none
 |_=>none
def zS(P:Program)(ev:Ev)(rb:Rb)(pc:aM)(t:TypeId)(parts:List (Nat×Operand)):Option Out:=
 match sW P t,abo P t with
 |some s,some fs=>
  if vv P fs s 0&&iB P t s then
   match (zeroE P t s).bind (fieldsOf s) with
   |some l=>match lI ev rb pc (fun j=>((fs[j]?).map (·.type)).getD 0) l parts with
    |some (l,f)=>some {x:= .dat s (Cu (l.map (·.2))),cmds:=f.map .aV}
    |none=>none
   |none=>none
  else none
 |_,_=>none
def zF(P:Program)(ev:Ev)(rb:Rb)(pc:aM)(t:TypeId)(len:Nat)(parts:List (Nat×Operand)):Option Out:=
 match nu P t with
 |none=>none
 |some et=>match sW P et with
  |none=>none
  |some s=>
   if iB P et s&&s.size !=0&&parts.length=len&&len*s.size<=2^24&&((P.info? et).bind (·.zero)).isSome then
    match lZ ev rb pc et s 0 parts with
    |some (e,f)=>some {x:= .dat (.sl s) e,cmds:=f.map .aV}
    |none=>none
   else none
def gW(rb:Rb)(d:Nat):Bool:=match rb d with|some ⟨.none,_⟩=>true|_=>false
def zK(P:Program)(ev:Ev)(rb:Rb)(pc:aM)(t:TypeId)(len:Nat)(dst:Option Tmp)(parts:List (Nat×Operand)):Option Out:=
 match nu P t,dst with
 |some et,some d=>match sW P et with
  |none=>none
  |some s=>
   if gW rb d&&iB P et s&&s.size !=0&&parts.length=len&&len*s.size<=2^24&&((P.info? et).bind (·.zero)).isSome then
    match lZ ev rb pc et s 0 parts with
    |some (e,[])=>some {x:= .full d (.int len),cmds:=[.put d ⟨.row s e,false,pc⟩]}
    |_=>none
   else none
 |_,_=>none
def Ad(P:Program)(rb:Rb)(pc:aM)(t:TypeId)(dst:Option Tmp):Option Out:=
 match sW P t,dst with
 |some s,some d=>match zeroE P t s with
  |some e=>if gW rb d&&iB P t s&&s.size !=0 then some {x:= .ref d (.int 0) 0 s none,cmds:=[.put d ⟨.box (flat s e),false,pc⟩]} else none
  |none=>none
 |_,_=>none
def CV(P:Program)(rb:Rb)(pc:aM)(t:TypeId)(dst:Option Tmp)(x:Option SX):Option Out:=
 match x,dst with
 |some (.dat s e),some d=>if gW rb d&&iB P t s then some {x:= .ref d (.int 0) 0 s none,cmds:=[.put d ⟨.box (flat s e),false,pc⟩]} else none
 |some (.full r n),some d=>match rowOf rb pc r with
  |some (s,_)=>if gW rb d&&iB P t (.sl s) then some {x:= .ref d (.int 0) 0 (.sl s) none,cmds:=[.put d ⟨.box [.full r n],false,pc⟩]} else none
  |none=>none
 |_,_=>none
def vK(P:Program)(rb:Rb)(pc:aM)(t:TypeId)(a:Option SX):Option Out:=
 match a with
 |some (.ptr s e)=>if iB P t s then some {x:= .dat s e} else none
 |some (.ref r i fo s bZ)=>
  if iB P t s then match rb r with
   |some ⟨.row es e,p⟩=>
    if tV p pc then match bZ with
     |none=>if s=es then some {x:= .dat s (.idx e i)} else none
     |some j=>if es.bZ j=some (s,fo) then some {x:= .dat s (AJ (.idx e i) j)} else none
    else none
   |some ⟨.box cs,p⟩=>
    if tV p pc then
     if s.isAgg then match dK rb pc s (cs.drop fo) with
      |some (e,f,_)=>some {x:= .dat s e,cmds:=f.map .aV}
      |none=>none
     else match cs[fo]? with
      |some x=>some {x}
      |none=>none
    else none
   |_=>none
  else none
 |_=>none
def mJ(rb:Rb)(pc:aM)(r:Nat):Bool:=match rb r with|some ⟨.row ..,p⟩|some ⟨.box _,p⟩=>tV p pc|_=>false
def CF(rb:Rb)(pc:aM)(x:Option SX):Option Out:=
 match x with
 |some (.ref r i fo s bZ)=>if mJ rb pc r then some {x:= .ref r i fo s bZ} else none
 |some (.ptr s e)=>some {x:= .ptr s e}
 |some (.fn f)=>some {x:= .fn f}
 |_=>none
def IX(P:Program)(f:Field)(s:Sh)(off:Nat):Bool:=f.offset=off&&s.size !=0&&(P.info? f.type).isSome&&P.cellsOf f.type=s.size
def Cc(P:Program)(rb:Rb)(pc:aM)(st:TypeId)(j:Nat)(x:Option SX):Option Out:=
 match x,P.underlying st with
 |some (.ref r i fo s none),some (.struct fs)=>match s.bZ j,fs[j]? with
  |some (s',off),some f=>if IX P f s' off&&mJ rb pc r then match rb r with
    |some ⟨.row ..,_⟩=>if fo=0 then some {x:= .ref r i off s' (some j)} else none
    |some ⟨.box ..,_⟩=>some {x:= .ref r i (fo+off) s' none}
    |_=>none
   else none
  |_,_=>none
 |some (.ptr s e),some (.struct fs)=>match s.bZ j,fs[j]? with
  |some (s',off),some f=>if IX P f s' off then some {x:= .ptr s' (AJ e j)} else none
  |_,_=>none
 |_,_=>none
def qK(P:Program)(et:TypeId)(s:Sh):Bool:=(P.info? et).isSome&&P.cellsOf et=s.size
def vC(P:Program)(rb:Rb)(pc:aM)(t:TypeId)(x:Option SX)(i:Option (IntKind×E)):Option Out:=
 match nu P t,x,i with
 |some et,some (.dat (.sl s) e),some (_,i)=>if qK P et s then some {x:= .ptr s (.idx e i),obs:=BI pc i (ny e)} else none
 |some et,some (.full r n),some (_,i)=>match rowOf rb pc r with
  |some (s,_)=>if qK P et s then some {x:= .ref r i 0 s none,obs:=BI pc i n} else none
  |none=>none
 |some et,some (.view r off n),some (_,i)=>match rowOf rb pc r with
  |some (s,_)=>if qK P et s then some {x:= .ref r (.raw .add off i) 0 s none,obs:=BI pc i n} else none
  |none=>none
 |_,_,_=>none
def vZ(P:Program)(rb:Rb)(pc:aM)(t:TypeId)(x:Option SX)(i:Option (IntKind×E)):Option Out:=
 match x,i,P.underlying t with
 |some (.ref r i0 0 s none),some (_,.int j),some (.array n e)=>match s.bZ j.toNat with
  |some (s',off)=>if (decide (0<=j)&&decide (j<n))&&(qK P e s'&&(off==j.toNat*s'.size&&mJ rb pc r)) then some {x:= .ref r i0 off s' (some j.toNat)} else none
  |none=>none
 |_,_,_=>none
def vI(P:Program)(rb:Rb)(pc:aM)(t:TypeId)(x:Option SX)(i:Option (IntKind×E)):Option Out:=
 match nu P t with
 |none=>vZ P rb pc t x i
 |some _=>vC P rb pc t x i
def ES(P:Program)(pc:aM)(t:TypeId)(x:Option SX)(i:Option (IntKind×E)):Option Out:=
 match P.underlying t,x,i with
 |some .string,some (.dat .str e),some (_,i)=>some {x:= .dat (.int .u8) (.uF e i),obs:=BI pc i (.eT e)}
 |_,_,_=>none
def qL(ev:Ev)(pc:aM)(d:E)(o:Option Operand):Option E:=
 match o with
 |none=>some d
 |some o=>match nU (ev pc o 0) with|some (_,e)=>some e|none=>none
def zU(P:Program)(ev:Ev)(rb:Rb)(pc:aM)(t:TypeId)(x:Option SX)(lo hi:Option Operand):Option Out:=
 match P.underlying t,x,qL ev pc (.int 0) lo with
 |some .string,some (.dat .str e),some lo=>match qL ev pc (.eT e) hi with
  |some hi=>some {x:= .dat .str (.uD e lo hi),obs:=Cr pc lo hi (.eT e)}
  |none=>none
 |some (.slice et),some (.dat (.sl s) e),some lo=>if qK P et s then match qL ev pc (ny e) hi with
   |some hi=>some {x:= .dat (.sl s) (.sub e lo hi),obs:=Cr pc lo hi (ny e)}
   |none=>none
  else none
 |some (.slice et),some (.full r n),some lo=>match rowOf rb pc r,qL ev pc n hi with
  |some (s,_),some hi=>if qK P et s then some {x:= .view r lo (.raw .sub hi lo),obs:=Cr pc lo hi n} else none
  |_,_=>none
 |some (.slice et),some (.view r off n),some lo=>match rowOf rb pc r,qL ev pc n hi with
  |some (s,_),some hi=>if qK P et s then some {x:= .view r (.raw .add off lo) (.raw .sub hi lo),obs:=Cr pc lo hi n} else none
  |_,_=>none
 |_,_,_=>none
def Aj(P:Program)(rb:Rb)(pc:aM)(t:TypeId)(dst:Option Tmp)(l c:Option (IntKind×E)):Option Out:=
 match nu P t,l,c,dst with
 |some et,some (_,l),some (_,c),some d=>match sW P et with
  |none=>none
  |some s=>match zeroE P et s with
   |some z=>if gW rb d&&iB P et s&&s.size !=0&&P.bytesOf et !=0 then some {x:= .full d l,cmds:=[.put d ⟨.row s (.rep l z),false,pc⟩],obs:=aj pc (.cmp .geq l (.int 0))++(aj pc (.cmp .leq l c)++aj pc (.cmp .leq (.raw .mul (.int (P.bytesOf et)) c) (.int 281474976710656)))} else none
   |none=>none
 |_,_,_,_=>none
def CG(P:Program)(rb:Rb)(pc:aM)(t:TypeId)(x:Option SX):Option Out:=
 match P.underlying t,x with
 |some .string,some (.dat .str e)=>some {x:= .dat (.int .i64) (.eT e)}
 |some (.slice _),some (.dat (.sl _) e)=>some {x:= .dat (.int .i64) (ny e)}
 |some (.slice _),some (.full r n)=>match rowOf rb pc r with|some _=>some {x:= .dat (.int .i64) n}|none=>none
 |some (.slice _),some (.view r _ n)=>match rowOf rb pc r with|some _=>some {x:= .dat (.int .i64) n}|none=>none
 |_,_=>none
def yR(f:E->E->E)(x y:Option SX):Option Out:=
 match x,y with
 |some (.dat (.int k) a),some (.dat (.int k') b)=>if k=k' then some {x:= .dat (.int k) (f a b)} else none
 |_,_=>none
def iq(nv:Nat):List Sh->List (Sh×E)
 | []=> []
 |s::l=>(s,.vq nv)::iq (nv+1) l
def CB:List (Sh×E)->SX
 | [(s,e)]=> .dat s e
 |l=> .res l
def xK:Sh->E->E
 | .sl _,_=> .aK
 | .unit,_=> .nil
 | .pair a b,e=> .cons (xK a (uH e)) (xK b (uG e))
 |_,e=>e
def vO(P:Program)(ev:Ev)(rb:Rb)(pc:aM)(nv:Nat)(t:TypeId)(f:Nat)(args:List Operand)(ts:List TypeId):Option Out:=
 match lq ev rb pc args ts,Ae P t with
 |some (l,_),some [s]=>some {x:= .dat s (xK s (.vq nv)),nv:=1,obs:=[.call pc (3000000+f) l [s]]}
 |_,_=>none
def vN(P:Program)(aF:Option (List Sh))(ev:Ev)(rb:Rb)(pc:aM)(nv:Nat)(f:Nat)(args:List Operand)(ts:List TypeId):Option Out:=
 match lq ev rb pc args ts,aF with
 |some (l,aV),some aF=>if f<1000000 then some {x:=CB (iq nv aF),cmds:=if aF.all Sh.fQ then [] else aV.map .aV,nv:=aF.length,obs:=[.call pc f l aF]} else none
 |_,_=>none
def rU(P:Program)(ev:Ev)(rb:Rb)(pc:aM)(b:Builtin)(args:List Operand)(ts:Array TypeId):Option Out:=
 match b,args,ts.toList with
 | .len,[x],[t]=>CG P rb pc t (ev pc x t)
 | .min,[x,y],_=>yR .l9 (ev pc x (ts.getD 0 0)) (ev pc y (ts.getD 0 0))
 | .max,[x,y],_=>yR .uJ (ev pc x (ts.getD 0 0)) (ev pc y (ts.getD 0 0))
 |_,_,_=>none
def Bz(p:aM):Bool:=p.any fun x=>match x.1 with| .bool b=>b !=x.2|_=>false
def zW(P:Program)(t:TypeId)(name:String):Option FuncId:=
 match P.info? t,P.underlying t with
 |some i,some d=>match i.methods.find? (·.name==name) with
  |some m=>match m.func with
   |some (f,false)=>if m.path.toList.isEmpty&& !(match d with| .pointer _=>true|_=>false) then some f else none
   |_=>none
  |none=>none
 |_,_=>none
def sO(e:E):E:= .ite (.bool true) e e
def hasAll(P:Program)(want:Array (String×TypeId))(t:TypeId):Option Bool:=(P.info? t).map fun i=>((want.toList.filter fun x=> !i.methods.any fun m=>m.name==x.1&&m.sig==x.2).map (·.1)).isEmpty
def sI(P:Program)(o:Oper)(pc:aM)(ev:Ev):Option Out:=
 match o.op with
 | .makeInterface t x=>match ev pc x t,P.underlying t with
  |some (.dat s e),some d=>if (match d with| .interface _=>true|_=>false) then none else some {x:= .dat (.bP t s) e}
  |_,_=>none
 | .makeFunc (.method name) first captured=>match first.toList,captured.toList with
  | [x],[]=>match ev pc x 0 with|some (.dat (.bP t s) _)=>some {x:= .uI t s name}|_=>none
  |_,_=>none
 | .nilCheck x=>match ev pc x 0 with
  |some (.uI t s name)=>if (zW P t name).isSome then some {x:= .uI t s name} else none
  |_=>none
 | .extract t i=>match ev pc t 0,i with
  |some (.wE s p),0=>some {x:= .dat .bool (.cmp .lss p (.eT s))}
  |some (.wE s p),1=>some {x:= .dat (.int .i64) p,obs:=[.aj pc (.cmp .lss p (.eT s))]}
  |some (.wE s p),2=>some {x:= .dat (.int .i32) (.vL s p),obs:=[.aj pc (.cmp .lss p (.eT s))]}
  |some .okF,0=>some {x:= .none}
  |some .okF,1=>some {x:= .dat .bool (.bool false)}
  |_,_=>none
 | .typeAssert x _ ty ok=>match ev pc x 0,P.underlying ty with
  |some (.dat (.bP t s) e),some (.interface want)=>match hasAll P want t with
   |some true=>if ok then some {x:= .res [(.bP t s,e),(.bool,.bool true)]} else some {x:= .dat (.bP t s) e}
   |some false=>if ok&&((P.info? ty).bind (·.zero)).isSome then some {x:= .okF} else none
   |none=>none
  |some (.dat (.bP t s) e),some _=>
   if t=ty then (if ok then some {x:= .res [(s,sO e),(.bool,.bool true)]} else some {x:= .dat s (sO e)})
   else if ok&&((P.info? ty).bind (·.zero)).isSome then some {x:= .okF} else none
  |some (.dat .iX _),some _=>if ok&&((P.info? ty).bind (·.zero)).isSome then some {x:= .okF} else none
  |_,_=>none
 | .binOp op xt x y _=>match op,ev pc x xt,y,P.underlying xt with
  | .eql,some (.dat (.bP _ _) _),.const .nilIface,some (.interface _)=>some {x:= .dat .bool (.bool false)}
  | .neq,some (.dat (.bP _ _) _),.const .nilIface,some (.interface _)=>some {x:= .dat .bool (.bool true)}
  | .eql,some (.dat .iX _),.const .nilIface,some (.interface _)=>some {x:= .dat .bool (.bool true)}
  | .neq,some (.dat .iX _),.const .nilIface,some (.interface _)=>some {x:= .dat .bool (.bool false)}
  |_,_,_,_=>none
 | .pick c a b=>match ev pc c 0 with
  |some (.dat .bool (.bool true))=>match ev pc a o.type with|some x=>some {x}|none=>none
  |some (.dat .bool (.bool false))=>match ev pc b o.type with|some x=>some {x}|none=>none
  |_=>none
 |_=>none
structure dA where
 raw:Bool
 rows:List Nat
 grow:List Nat:=[]
 fresh:List Nat:=[]
 FT:List Nat:=[]
 keeps:List Nat:=[]
 aF:List (Nat×List Sh):=[]
 marks:List Nat:=[]
 cuts:List Nat:=[]
def dA.owns(cfg:dA)(f:Nat):Bool:=cfg.grow.contains f||cfg.fresh.contains f
def aam(cfg:dA)(o:Oper)(len:Nat):Bool:=len=0||(match o.dst with|some d=>cfg.rows.contains d|none=>false)
def dA.acj(cfg:dA)(P:Program)(f:Nat)(t:TypeId):Option (List Sh):=
 match cfg.aF.find? (·.1==f) with
 |some (_,l)=>some l
 |none=>Ae P t
def oP(P:Program)(cfg:dA)(ev:Ev)(rb:Rb)(pc:aM)(nv:Nat)(t:TypeId)(f:Nat)(pre:List (Sh×E))(args:List Operand)(ts:List TypeId):Option Out:=
 match lq ev rb pc args ts,cfg.acj P f t with
 |some (l,aV),some aF=>if f<1000000 then some {x:=CB (iq nv aF),cmds:=if aF.all Sh.fQ then [] else aV.map .aV,nv:=aF.length,obs:=[.call pc f (pre++l) aF]} else none
 |_,_=>none
def FU(P:Program)(t:TypeId):Option (IntKind×TypeId):=
 match P.underlying t with
 |some (.map k e)=>match P.underlying k with|some (.int kk)=>some (kk,e)|_=>none
 |_=>none
def Cn(rb:Rb)(pc:aM):Option SX->Option (IntKind×Sh×E)
 |some (.dat (.mp k s) e)=>some (k,s,e)
 |some (.rF r)=>mapOf rb pc r
 |_=>none
def OP(P:Program)(t:TypeId)(s:Sh):Option E:=
 match (P.info? t).bind (·.zero) with
 |some v=>match ni s [v] with|some (e,[])=>some e|_=>none
 |none=>none
def pE(P:Program)(cfg:dA)(o:Oper)(pc:aM)(ev:Ev)(rb:Rb)(nv:Nat):Option Out:=
 match o.op with
 | .call {callee:= .invoke x name,args,argTypes}=>match ev pc x 0 with
  |some (.dat (.bP t s) e)=>match zW P t name with
   |some f=>oP P cfg ev rb pc nv o.type f [(s,e)] args.toList argTypes.toList
   |none=>none
  |_=>none
 | .call {callee:= .value (.func _),.. }=>none
 | .call {callee:= .value x,args,argTypes}=>match ev pc x 0 with
  |some (.dat (.eU f) _)=>oP P cfg ev rb pc nv o.type f [] args.toList argTypes.toList
  |_=>none
 | .lookup t m x ok=>match FU P t,nU (ev pc x 0),Cn rb pc (ev pc m t) with
  |some (kk,et),some (k',ek),some (Gm,s,e)=>
   if kk=k'&&kk=Gm&& !s.isAgg then match OP P et s with
    |some z=>if ok then some {x:= .res [(s,sO (.gB e ek z)),(.bool,.ql e ek)]} else some {x:= .dat s (sO (.gB e ek z))}
    |none=>none
   else none
  |_,_,_=>none
 | .makeMap t none=>match FU P t,o.dst with
  |some (kk,et),some d=>match sW P et with
   |some s=>if gW rb d&& !s.isAgg then some {x:= .rF d,cmds:=[.put d ⟨.mp kk s .nil,false,pc⟩]} else none
   |none=>none
  |_,_=>none
 | .range t x=>match P.underlying t,ev pc x t,o.dst with
  |some .string,some (.dat .str e),some d=>if gW rb d then some {x:= .uT d,cmds:=[.put d ⟨.sit e (.int 0),false,pc⟩]} else none
  |_,_,_=>none
 |_=>none
def jA(P:Program)(cfg:dA)(o:Oper)(pc:aM)(ev:Ev)(rb:Rb)(nv:Nat):Option Out:=
 match o.op with
 | .move x| .assign x=>match ev pc x o.type with|some x=>some {x}|none=>none
 | .pick c a b=>FD (ev pc c 0) (fun ec=>ev (pc++ [(ec,true)]) a o.type) (fun ec=>ev (pc++ [(ec,false)]) b o.type)
 | .binOp op xt x y yt=>
  match ev pc x xt,ev pc y yt with
  |some (.dat s ex),some (.dat s' ey)=>vX P cfg.raw pc op xt s ex s' ey
  |_,_=>none
 | .unOp op _ x=>Gd op (ev pc x o.type)
 | .convert src dst x=>Ct P rb pc src dst (ev pc x src)
 | .extract t i=>match ev pc t 0 with
  |some (.res l)=>match l[i]? with|some (s,e)=>some {x:= .dat s e}|none=>none
  |some (.yA r n l)=>match i with
   |0=>some {x:= .full r n}
   |i+1=>match l[i]? with|some (s,e)=>some {x:= .dat s e}|none=>none
  |_=>none
 | .field t x j=>E5 P t j (ev pc x t)
 | .build t parts=>zS P ev rb pc t parts.toList
 | .buildSlice t len parts=>if aam cfg o len then zK P ev rb pc t len o.dst parts.toList else zF P ev rb pc t len parts.toList
 | .alloc t=>Ad P rb pc t o.dst
 | .box t x=>CV P rb pc t o.dst (ev pc x t)
 | .load t a=>vK P rb pc t (ev pc a 0)
 | .nilCheck x=>CF rb pc (ev pc x 0)
 | .fieldAddr st x j=>Cc P rb pc st j (ev pc x 0)
 | .indexAddr t x i=>vI P rb pc t (ev pc x t) (nU (ev pc i 0))
 | .index t x i=>ES P pc t (ev pc x t) (nU (ev pc i 0))
 | .slice t x lo hi none=>zU P ev rb pc t (ev pc x t) lo hi
 | .makeSlice t l c=>Aj P rb pc t o.dst (nU (ev pc l 0)) (nU (ev pc c 0))
 | .call {callee:= .builtin b,args,argTypes}=>rU P ev rb pc b args.toList argTypes
 | .call {callee:= .value (.func f),args,argTypes}=>if cfg.owns f then none else if cfg.FT.contains f then vO P ev rb pc nv o.type f args.toList argTypes.toList else vN P (cfg.acj P f o.type) ev rb pc nv f args.toList argTypes.toList
 |_=>pE P cfg o pc ev rb nv
def fA(P:Program)(cfg:dA)(o:Oper)(pc:aM)(ev:Ev)(rb:Rb)(nv:Nat):Option Out:=
 if Bz pc then some {x:= .none} else match sI P o pc ev with
 |some out=>some out
 |none=>jA P cfg o pc ev rb nv
def ownRow(bs:List aG)(r:Nat):Option (Sh×E):=match bs[r]? with|some ⟨.row s e,false,[]⟩=>some (s,e)|_=>none
def aY(bs:List aG):Rb:=fun r=>match bs[r]? with|some b=>some ⟨b.lb,b.bM⟩|none=>none
def jN(f:List Nat)(bs:List aG):List aG:=f.foldl (fun bs r=>bs.modify r fun b=> {b with fI:=true}) bs
def DK(bs:List aG)(r:Nat)(es:Sh)(e i:E)(fo:Nat)(s:Sh)(bZ:Option Nat)(x:SX):Option (List aG):=
 match iF (aY bs) [] x with
 |some (s',ex,f)=>
  if s=s'&& !f.contains r then
   match bZ with
   |none=>if s=es then some ((jN f bs).set r ⟨.row es (.set e i ex),false,[]⟩) else none
   |some j=>if es.bZ j=some (s,fo) then some ((jN f bs).set r ⟨.row es (.set e i (.mP j (.idx e i) ex)),false,[]⟩) else none
  else none
 |none=>none
def DN(bs:List aG)(r:Nat)(cs:List SX)(fo:Nat)(s:Sh)(x:SX):Option (List aG):=
 match x with
 | .dat s' ex=>if s=s'&&fo+s.size<=cs.length then some (bs.set r ⟨.box (cs.take fo++(flat s ex++cs.drop (fo+s.size))),false,[]⟩) else none
 | .full r' n=>match rowOf (aY bs) [] r' with
  |some (es,_)=>if s= .sl es&&fo<cs.length then some (bs.set r ⟨.box (cs.set fo (.full r' n)),false,[]⟩) else none
  |none=>none
 |_=>none
def EH(P:Program)(bs:List aG)(t:TypeId)(a x:Option SX):Option (List aG):=
 match a,x with
 |some (.ref r i fo s bZ),some x=>if iB P t s then match bs[r]? with
   |some ⟨.row es e,false,[]⟩=>DK bs r es e i fo s bZ x
   |some ⟨.box cs,false,[]⟩=>DN bs r cs fo s x
   |_=>none
  else none
 |_,_=>none
def uE(P:Program)(bs:List aG)(t:TypeId)(x:SX):Option (Sh×E×List Nat):=
 match x,P.underlying t with
 | .dat .str e,some .string=>some (.int .u8,.ofStr e,[])
 |x,some (.slice _)=>match iF (aY bs) [] x with|some (.sl s,e,f)=>some (s,e,f)|_=>none
 |_,_=>none
def oV(P:Program)(bs:List aG)(et t:TypeId)(x:SX):Option (Sh×E×List Nat):=
 match x,P.underlying t with
 | .dat (.int _) e,some (.int _)=>match sW P et with
  |some s=>match zeroE P et s with
   |some z=>some (s,.rep (.ite (.cmp .geq e (.int 0)) e (.int 1152921504606846976)) z,[])
   |none=>none
  |none=>none
 |x,_=>uE P bs t x
def nT(bs:List aG)(d:Nat):Bool:=match bs[d]? with|some ⟨.none,_,_⟩=>true|_=>false
def ED(P:Program)(keep:Bool)(bs:List aG)(ts:Array TypeId)(d:Nat)(a b:Option SX):Option (SX×List aG×List Ob):=
 match nu P (ts.getD 0 0),a,b with
 |some et,some sa,some sb=>
  match oV P bs et (ts.getD 1 0) sb with
  |none=>none
  |some (s,m,f)=>
   if ts.size=2&&(zeroE P et s).isSome&&iB P et s&&s.size !=0&&P.bytesOf et !=0 then
    match sa with
    | .dat (.sl s') .aK=>if s=s'&&nT bs d then some (.full d (ny m),bs.set d ⟨.row s m,false,[]⟩,[.aj [] (.cmp .leq (.raw .mul (.len m) (.int (P.bytesOf et))) (.int 140737488355328))]) else none
    | .full r n=>match ownRow bs r with
     |some (s',e)=>
      if keep then
       if s=s'&& !f.contains r then
        some (.dat (.sl s) (.app e m),bs.set r ⟨.row s e,true,[]⟩,[.aj [] (.cmp .leq (.raw .mul (.raw .add n (.len m)) (.int (P.bytesOf et))) (.int 140737488355328))])
       else none
      else if s=s'&& !f.contains r&&nT bs d then
       some (.full d (.raw .add n (ny m)),(bs.set r ⟨.dead,false,[]⟩).set d ⟨.row s (.app e m),false,[]⟩,[.aj [] (.cmp .leq (.raw .mul (.raw .add n (.len m)) (.int (P.bytesOf et))) (.int 140737488355328))])
      else none
     |none=>none
    |_=>none
   else none
 |_,_,_=>none
def Kg:SX->Option (Nat×E×E)
 | .full r n=>some (r,.int 0,n)
 | .view r off n=>some (r,off,n)
 |_=>none
def FK(P:Program)(bs:List aG)(ts:Array TypeId)(a b:Option SX):Option (SX×List aG):=
 match nu P (ts.getD 0 0),a,b with
 |some et,some sa,some sb=>
  match uE P bs (ts.getD 1 0) sb,Kg sa with
  |some (s,m,_),some (r,off,n)=>match ownRow bs r with
   |some (s',e)=>if s=s'&&iB P et s&&ts.size=2 then
     some (.dat (.int .i64) (.l9 (ny m) n),bs.set r ⟨.row s (.splice e off (.sub m (.int 0) n)),false,[]⟩)
    else none
   |none=>none
  |_,_=>none
 |_,_,_=>none
def yh(P:Program)(bs:List aG)(t:TypeId)(x:Option SX):Option (Sh×E×Nat):=
 match nu P t,x with
 |some et,some (.full r _)=>match P.underlying et,ownRow bs r with
  |some (.int .u8),some (s,.cons x y)=>some (s,.cons x y,r)
  |_,_=>none
 |_,_=>none
def yg(P:Program)(bs:List aG)(t:TypeId)(m:Option SX)(k:Option (IntKind×E))(x:Option SX):Option (Nat×aG):=
 match FU P t,m,k,x with
 |some (kk,_),some (.rF r),some (k',ek),some (.dat s' ex)=>match bs[r]? with
  |some ⟨.mp Gm s e,false,[]⟩=>if kk=k'&&kk=Gm&&s=s'&& !s.isAgg then some (r,⟨.mp kk s (.iP e ek ex),false,[]⟩) else none
  |_=>none
 |_,_,_,_=>none
def x9(bs:List aG)(it:Option SX):Option (SX×Nat×aG):=
 match it with
 |some (.uT r)=>match bs[r]? with
  |some ⟨.sit s p,false,[]⟩=>some (.wE s p,r,⟨.sit s (.ite (.cmp .lss p (.eT s)) (.raw .add p (.vV s p)) p),false,[]⟩)
  |_=>none
 |_=>none
def dA.keep(cfg:dA)(o:Oper):Bool:=match o.dst with|some d=>cfg.keeps.contains d|none=>false
def tq(P:Program)(cfg:dA)(o:Oper)(ev:Ev)(bs:List aG):Option (SX×List aG×List Ob):=
 match o.op with
 | .store t a x=>match EH P bs t (ev [] a 0) (ev [] x t) with|some bs=>some (.none,bs,[])|none=>none
 | .call {callee:= .builtin .append,args,argTypes}=>match args.toList,o.dst with
  | [a,b],some d=>ED P (cfg.keep o) bs argTypes d (ev [] a (argTypes.getD 0 0)) (ev [] b (argTypes.getD 1 0))
  |_,_=>none
 | .call {callee:= .builtin .copy,args,argTypes}=>match args.toList with
  | [a,b]=>match FK P bs argTypes (ev [] a (argTypes.getD 0 0)) (ev [] b (argTypes.getD 1 0)) with|some (x,bs)=>some (x,bs,[])|none=>none
  |_=>none
 | .convert src dst x=>if src=dst then match yh P bs src (ev [] x src) with|some (s,e,r)=>some (.dat (.sl s) e,bs.set r ⟨.dead,false,[]⟩,[])|none=>none else none
 | .mapUpdate t m k x=>match yg P bs t (ev [] m t) (nU (ev [] k 0)) (ev [] x 0) with|some (r,b)=>some (.none,bs.set r b,[])|none=>none
 | .next it true=>match x9 bs (ev [] it 0) with|some (x,r,b)=>some (x,bs.set r b,[])|none=>none
 |_=>none
def vF(d nv:Nat)(aF:List Sh):SX:=if aF=[] then .full d (.len (.vq nv)) else .yA d (.len (.vq nv)) (iq (nv+1) aF)
def kD(s:Sh)(aF:List Sh)(fz:List Nat):List Nat:=if s.fQ&&aF.all Sh.fQ then [] else fz
def Cq(P:Program)(ev:Ev)(bs:List aG)(nv:Nat)(t:TypeId)(d f:Nat)(args:List Operand)(ts:List TypeId):Option (SX×List aG×List Ob×Nat):=
 match Ae P t,args with
 |some (.sl s::aF),x0::xs=>
  match lq ev (aY bs) [] xs ts.tail with
  |some (l,fz)=>
   if s.size !=0&&(nT bs d&&f<1000000) then
    match ev [] x0 (ts.headD 0) with
    |some (.full r _)=>match ownRow bs r with
     |some (s',e)=>
      if s=s'&& !fz.contains r then
       some (vF d nv aF,((jN (kD s aF fz) bs).set r ⟨.dead,false,[]⟩).set d ⟨.row s (.vq nv),false,[]⟩,[.call [] (1000000+f) ((.sl s,e)::l) (.sl s::aF)],1+aF.length)
      else none
     |none=>none
    |some (.dat (.sl s') .aK)=>
     if s=s' then some (vF d nv aF,(jN (kD s aF fz) bs).set d ⟨.row s (.vq nv),false,[]⟩,[.call [] (1000000+f) ((.sl s,.aK)::l) (.sl s::aF)],1+aF.length)
     else none
    |_=>none
   else none
  |none=>none
 |_,_=>none
def Aa(P:Program)(ev:Ev)(bs:List aG)(nv:Nat)(t:TypeId)(d f:Nat)(args:List Operand)(ts:List TypeId):Option (SX×List aG×List Ob×Nat):=
 match Ae P t with
 |some (.sl s::aF)=>
  match lq ev (aY bs) [] args ts with
  |some (l,fz)=>
   if s.size !=0&&(nT bs d&&f<1000000) then
    some (vF d nv aF,(jN (kD s aF fz) bs).set d ⟨.row s (.vq nv),false,[]⟩,[.call [] (2000000+f) l (.sl s::aF)],1+aF.length)
   else none
  |none=>none
 |_=>none
def tu(P:Program)(cfg:dA)(o:Oper)(ev:Ev)(bs:List aG)(nv:Nat):Option (SX×List aG×List Ob×Nat):=
 match o.op,o.dst with
 | .call {callee:= .value (.func f),args,argTypes},some d=>
  if cfg.grow.contains f then Cq P ev bs nv o.type d f args.toList argTypes.toList
  else if cfg.fresh.contains f then Aa P ev bs nv o.type d f args.toList argTypes.toList
  else none
 |_,_=>none
inductive Cls where|P|R|A|L|W|G|call
 deriving DecidableEq
def cls(cfg:dA)(o:Oper):Cls:=
 match o.op with
 | .move _| .assign _| .pick .. | .binOp .. | .unOp .. | .extract .. | .field .. | .index .. | .makeInterface .. | .makeFunc .. | .typeAssert .. => .P
 | .alloc _| .makeSlice .. | .makeMap .. => .A
 | .range .. => .L
 | .mapUpdate .. | .next .. => .W
 | .convert .. =>if (match o.dst with|some d=>cfg.marks.contains d|none=>false) then .W else .R
 | .call {callee:= .invoke ..,.. }=> .call
 | .box .. => .L
 | .buildSlice _ len _=>if aam cfg o len then .L else .R
 | .store .. | .call {callee:= .builtin .append,.. }| .call {callee:= .builtin .copy,.. }=> .W
 | .call {callee:= .builtin .min,.. }| .call {callee:= .builtin .max,.. }=> .P
 | .call {callee:= .value (.func f),.. }=>if cfg.owns f then .G else .call
 | .call {callee:= .value _,.. }=> .call
 |_=> .R
def SS.ev(P:Program)(S:SS):Ev:=fun pc x t=>
 match x with
 | .tmp i=>match S.tmps[i]? with
  |some ts=>if tV ts.bM pc then some ts.sx else none
  |none=>none
 | .const v=>N9 (sW P t) v
 | .func f=>some (.fn f)
 | .global _=>none
def SS.rb(S:SS):Rb:=aY S.blks
def qG(S:SS)(ops:List Oper)(o:Oper):Option aM:=
 match o.guard with
 |none=>some []
 |some (j,want)=>match ((ops[j]?).bind (·.dst)).bind (S.tmps[·]?) with
  |some ⟨p,.dat .bool e⟩=>some (p++ [(e,want)])
  |_=>none
def dM.run:dM->List aG->List aG
 | .aV r,bs=>bs.modify r fun b=> {b with fI:=true}
 | .put r b,bs=>bs.set r b
def aW(cs:List dM)(bs:List aG):List aG:=cs.foldl (fun bs c=>c.run bs) bs
def cO(l:List TS)(d:Option Tmp)(t:TS):List TS:=match d with|some d=>l.set d t|none=>l
def eP(l:List Ob):Nat:=(l.map Ob.vars).sum
def oQ(P:Program)(cfg:dA)(ops:List Oper)(o:Oper)(S:SS):Option (SS×List Ob):=
 match qG S ops o with
 |none=>none
 |some pc=>
  if cls cfg o= .W then
   if pc=[] then
    match tq P cfg o (S.ev P) S.blks with
    |some (x,bs,obs)=>if eP obs=0 then some ({S with tmps:=cO S.tmps o.dst ⟨[],x⟩,blks:=bs},obs) else none
    |none=>none
   else none
  else if cls cfg o= .G then
   if pc=[] then
    match tu P cfg o (S.ev P) S.blks S.nv with
    |some (x,bs,obs,n)=>if eP obs=n then some ({tmps:=cO S.tmps o.dst ⟨[],x⟩,blks:=bs,nv:=S.nv+n},obs) else none
    |none=>none
   else none
  else
   match fA P cfg o pc (S.ev P) S.rb S.nv with
   |some out=>if eP out.obs=out.nv then some ({tmps:=cO S.tmps o.dst ⟨pc,out.x⟩,blks:=aW out.cmds S.blks,nv:=S.nv+out.nv},out.obs) else none
   |none=>none
def j6(P:Program)(cfg:dA)(ops:List Oper):List Oper->SS->Option (SS×List Ob)
 | [],S=>some (S,[])
 |o::r,S=>match oQ P cfg ops o S with
  |none=>none
  |some (S1,obs)=>match j6 P cfg ops r S1 with
   |none=>none
   |some (S2,PD)=>some (S2,obs++PD)
def aaT(P:Program)(cfg:dA)(ops:List Oper):Nat->List Oper->SS->Nat
 |n,[],_=>n
 |n,o::r,S=>match oQ P cfg ops o S with|none=>n|some (S1,_)=>aaT P cfg ops (n+1) r S1
def E.subst(base:Nat)(es:List E):E->E
 | .vq i=>if i<base then .vq i else es.getD (i-base) (.vq i)
 | .int n=> .int n
 | .bool b=> .bool b
 | .str s=> .str s
 | .nil=> .nil
 | .aK=> .aK
 | .cons x y=> .cons (x.subst base es) (y.subst base es)
 | .hd x=> .hd (x.subst base es)
 | .tl x=> .tl (x.subst base es)
 | .mP j x y=> .mP j (x.subst base es) (y.subst base es)
 | .bin o k x y=> .bin o k (x.subst base es) (y.subst base es)
 | .raw o x y=> .raw o (x.subst base es) (y.subst base es)
 | .cmp o x y=> .cmp o (x.subst base es) (y.subst base es)
 | .oZ o x y=> .oZ o (x.subst base es) (y.subst base es)
 | .beq x y=> .beq (x.subst base es) (y.subst base es)
 | .not x=> .not (x.subst base es)
 | .ite x y z=> .ite (x.subst base es) (y.subst base es) (z.subst base es)
 | .conv k x=> .conv k (x.subst base es)
 | .Cw k x=> .Cw k (x.subst base es)
 | .len x=> .len (x.subst base es)
 | .eT x=> .eT (x.subst base es)
 | .idx x y=> .idx (x.subst base es) (y.subst base es)
 | .uF x y=> .uF (x.subst base es) (y.subst base es)
 | .sub x y z=> .sub (x.subst base es) (y.subst base es) (z.subst base es)
 | .uD x y z=> .uD (x.subst base es) (y.subst base es) (z.subst base es)
 | .app x y=> .app (x.subst base es) (y.subst base es)
 | .set x y z=> .set (x.subst base es) (y.subst base es) (z.subst base es)
 | .rep x y=> .rep (x.subst base es) (y.subst base es)
 | .splice x y z=> .splice (x.subst base es) (y.subst base es) (z.subst base es)
 | .toStr x=> .toStr (x.subst base es)
 | .ofStr x=> .ofStr (x.subst base es)
 | .cat x y=> .cat (x.subst base es) (y.subst base es)
 | .l9 x y=> .l9 (x.subst base es) (y.subst base es)
 | .uJ x y=> .uJ (x.subst base es) (y.subst base es)
 | .fits k x=> .fits k (x.subst base es)
 | .wK s x y=> .wK s (x.subst base es) (y.subst base es)
 | .gB x y z=> .gB (x.subst base es) (y.subst base es) (z.subst base es)
 | .ql x y=> .ql (x.subst base es) (y.subst base es)
 | .iP x y z=> .iP (x.subst base es) (y.subst base es) (z.subst base es)
 | .vL x y=> .vL (x.subst base es) (y.subst base es)
 | .vV x y=> .vV (x.subst base es) (y.subst base es)
def SX.bd(n:Nat):SX->Bool
 | .none| .fn _| .uI .. | .rF _| .uT _| .okF=>true
 | .wE s p=>s.bd n&&p.bd n
 | .dat _ e| .full _ e| .ref _ e _ _ _| .ptr _ e| .Av e=>e.bd n
 | .view _ a b=>a.bd n&&b.bd n
 | .res l=>l.all fun x=>x.2.bd n
 | .yA _ m l=>m.bd n&&l.all fun x=>x.2.bd n
def LB.bd(n:Nat):LB->Bool
 | .none| .dead=>true
 | .row _ e=>e.bd n
 | .box cs=>cs.all (·.bd n)
 | .mp _ _ e=>e.bd n
 | .sit s p=>s.bd n&&p.bd n
def SS.bd(S:SS)(n:Nat):Bool:=S.tmps.all (fun t=>uf n t.bM&&t.sx.bd n)&&S.blks.all fun b=>uf n b.bM&&b.lb.bd n
def Ob.bd(n:Nat):Ob->Bool
 | .aj p e=>uf n p&&e.bd n
 | .call p _ args _=>uf n p&&args.all fun x=>x.2.bd n
def Cm:Nat->List Ob->Bool
 |_,[]=>true
 |n,o::l=>o.bd n&&Cm (n+o.vars) l
def FE:List Ob->VC->VC
 | [],k=>k
 | .aj p e::l,k=> .aj p e (FE l k)
 | .call p f args aF::l,k=> .call p f args aF (FE l k)
abbrev Ren:=List (Nat×Option Nat)
def ren(π:Ren)(r:Nat):Option (Option Nat):=(π.find? fun x=>x.1==r).map (·.2)
def rowAt(S:SS)(r:Nat):Option (Sh×E×Bool):=match S.blks[r]? with|some ⟨.row s e,f,[]⟩=>some (s,e,f)|_=>none
def JJ(S:SS)(r:Nat):Option (List SX×Bool):=match S.blks[r]? with|some ⟨.box cs,f,[]⟩=>some (cs,f)|_=>none
def JD(S:SS)(r:Nat):Option (IntKind×Sh×E×Bool):=match S.blks[r]? with|some ⟨.mp k s e,f,[]⟩=>some (k,s,e,f)|_=>none
def Jr(S:SS)(r:Nat):Option (E×E×Bool):=match S.blks[r]? with|some ⟨.sit s p,f,[]⟩=>some (s,p,f)|_=>none
def isLen(H:SS)(r:Nat)(n:E):Bool:=match rowAt H r with|some (_,e,_)=>decide (n= .len e)|none=>false
def Ch(base:Nat)(es:List E)(π:Ren)(H:SS):SX->SX->Bool
 | .none,_=>true
 | .dat s e,.dat s' e'=>decide (s=s')&&decide (e.subst base es=e')
 | .full r n,.full r' n'=>(rowAt H r).isSome&&decide (ren π r=some (some r'))&&(decide (n.subst base es=n')||isLen H r n)
 | .full r n,.dat (.sl s) .aK=>decide (ren π r=some none)&&((match rowAt H r with|some (s',_,_)=>decide (s=s')|none=>false)&&isLen H r n)
 | .view r off n,.view r' off' n'=>(rowAt H r).isSome&&decide (ren π r=some (some r'))&&(decide (off.subst base es=off')&&decide (n.subst base es=n'))
 | .ref r i fo s bZ,.ref r' i' fo' s' aei=>decide (r=r')&&(JJ H r).isSome&&(decide (i.subst base es=i')&&(decide (fo=fo')&&(decide (s=s')&&decide (bZ=aei))))
 | .fn f,.fn f'=>decide (f=f')
 | .uI t s n,.uI t' s' n'=>decide (t=t')&&(decide (s=s')&&decide (n=n'))
 | .rF r,.rF r'=>decide (r=r')&&(JD H r).isSome
 | .uT r,.uT r'=>decide (r=r')&&(Jr H r).isSome
 |_,_=>false
def zT(base:Nat)(es:List E)(π:Ren)(H:SS):List SX->List SX->Bool
 | [],[]=>true
 |x::l,y::m=>Ch base es π H x y&&zT base es π H l m
 |_,_=>false
def BR(base:Nat)(es:List E)(π:Ren)(H:SS):List TS->List TS->Bool
 | [],[]=>true
 |x::l,y::m=>decide (x.bM=[])&&(decide (x.sx= .none)||(decide (y.bM=[])&&Ch base es π H x.sx y.sx))&&BR base es π H l m
 |_,_=>false
def um(base:Nat)(es:List E)(π:Ren)(H S:SS)(r:Nat)(b:aG):Bool:=
 match b with
 |⟨.none,_,_⟩|⟨.dead,_,_⟩=>true
 |⟨.row s e,f,[]⟩=>match ren π r with
  |some (some r')=>match rowAt S r' with
   |some (s',e',f')=>decide (s=s')&&decide (e.subst base es=e')&&(f|| !f')
   |none=>false
  |some none=>decide (e.subst base es= .nil)&&s.size !=0
  |none=>false
 |⟨.box cs,f,[]⟩=>match JJ S r with
  |some (cs',f')=>(f|| !f')&&zT base es π H cs cs'
  |none=>false
 |⟨.mp k s e,f,[]⟩=>match JD S r with
  |some (k',s',e',f')=>decide (k=k')&&(decide (s=s')&&(decide (e.subst base es=e')&&(f|| !f')))
  |none=>false
 |⟨.sit s p,f,[]⟩=>match Jr S r with
  |some (s',p',f')=>decide (s.subst base es=s')&&(decide (p.subst base es=p')&&(f|| !f'))
  |none=>false
 |_=>false
def EG(base:Nat)(es:List E)(π:Ren)(H S:SS):Nat->List aG->Bool
 |_,[]=>true
 |r,b::l=>um base es π H S r b&&EG base es π H S (r+1) l
def Jd:Ren->Bool
 | []=>true
 |(_,x)::l=>(match x with|none=>true|some r=>l.all fun y=>y.2 !=some r)&&Jd l
def xH(base:Nat)(es:List E)(π:Ren)(H S:SS):Bool:=
 BR base es π H H.tmps S.tmps&&(EG base es π H S 0 H.blks&&Jd π)
structure Hint where
 key:Nat
 slots:List Nat
 own:List (Nat×Nat):=[]
 cells:List (Nat×Nat×Nat):=[]
 Dl:List Nat:=[]
 PO:List (Nat×Nat):=[]
def writes:Code->List Nat
 | .region _ ops _=>ops.toList.filterMap (·.dst)
 | .seq a b=>writes a++writes b
 | .cond _ a b=>writes a++writes b
 | .block _ c=>writes c
 | .loop c=>writes c
 | .scope c=>writes c
 |_=> []
def tN:Code->Nat
 | .region id _ _=>id
 | .seq a _=>tN a
 | .block _ c=>tN c
 | .loop c=>tN c
 |_=>0
def Fj:SX->Option Nat
 | .full r _| .view r _ _| .ref r _ _ _ _| .rF r| .uT r=>some r
 |_=>none
structure y7 where
 nv:Nat
 es:List E
 π:Ren
 blks:List aG
def adK(S:SS)(x:SX)(id:Nat)(st:y7):SX×y7:=
 match x with
 | .dat (.sl s) .aK=>(.full id (.len (.vq st.nv)),{st with nv:=st.nv+1,es:=st.es++ [.nil],π:=st.π++ [(id,none)],blks:=st.blks.set id ⟨.row s (.vq st.nv),false,[]⟩})
 | .full r _=>match rowAt S r with
  |some (s,e,f)=>(.full id (.len (.vq st.nv)),{st with nv:=st.nv+1,es:=st.es++ [e],π:=st.π++ [(id,some r)],blks:=(st.blks.set r ⟨.dead,false,[]⟩).set id ⟨.row s (.vq st.nv),f,[]⟩})
  |none=>(.none,st)
 |_=>(.none,st)
def acH(S:SS)(h:Hint)(tw:List Nat):Nat->List TS->y7->List TS×y7
 |_,[],st=>([],st)
 |t,ts::l,st=>
  let (x,st):=match h.own.find? (·.1==t) with
   |some (_,id)=>adK S ts.sx id st
   |none=>
    if h.slots.contains t then match ts.sx with
     | .dat s e=>(SX.dat s (.vq st.nv),{st with nv:=st.nv+1,es:=st.es++ [e]})
     |_=>(.none,st)
    else if tw.contains t then (.none,st)
    else if ts.bM=[] then (match ts.sx with| .ptr .. | .res _| .yA .. | .Av _| .wE .. | .okF| .uI .. =>(.none,st)|x=>match Fj x with|some r=>if h.own.any (·.2==r)||h.cells.any (·.2.2==r) then (.none,st) else (x,st)|none=>(x,st)) else (.none,st)
  let (l,st):=acH S h tw (t+1) l st
  (⟨[],x⟩::l,st)
def Zo(S:SS)(h:Hint)(r:Nat):Nat->List SX->y7->List SX×y7
 |_,[],st=>([],st)
 |j,x::l,st=>
  let (y,st):=match h.cells.find? (fun c=>c.1==r&&c.2.1==j) with
   |some (_,_,id)=>adK S x id st
   |none=>if h.PO.any (fun c=>c.1==r&&c.2==j) then match x with
     | .dat s e=>(SX.dat s (.vq st.nv),{st with nv:=st.nv+1,es:=st.es++ [e]})
     |x=>(x,st)
    else (x,st)
  let (l,st):=Zo S h r (j+1) l st
  (y::l,st)
def acI(S:SS)(h:Hint)(tw:List Nat):Nat->List aG->y7->y7
 |_,[],st=>st
 |r,b::l,st=>
  let st:=if (h.own.any (·.2==r)||h.cells.any (·.2.2==r)) then st
   else if tw.contains r then {st with blks:=st.blks.set r ⟨.none,false,[]⟩}
   else match b with
    |⟨.row s e,f,[]⟩=>
     if (st.blks[r]?).map (·.lb)=some .dead then st
     else if h.Dl.contains r then {st with nv:=st.nv+1,es:=st.es++ [e],π:=st.π++ [(r,some r)],blks:=st.blks.set r ⟨.row s (.vq st.nv),f,[]⟩}
     else {st with π:=st.π++ [(r,some r)]}
    |⟨.box cs,f,[]⟩=>
     let (cs,st):=Zo S h r 0 cs st
     {st with blks:=st.blks.set r ⟨.box cs,f,[]⟩}
    |⟨.mp k s e,f,[]⟩=>if h.Dl.contains r then {st with nv:=st.nv+1,es:=st.es++ [e],blks:=st.blks.set r ⟨.mp k s (.vq st.nv),f,[]⟩} else st
    |⟨.sit s p,f,[]⟩=>if h.Dl.contains r then {st with nv:=st.nv+1,es:=st.es++ [p],blks:=st.blks.set r ⟨.sit s (.vq st.nv),f,[]⟩} else st
    |⟨.none,_,_⟩|⟨.dead,_,_⟩=>st
    |_=> {st with blks:=st.blks.set r ⟨.dead,false,[]⟩}
  acI S h tw (r+1) l st
def aqv(H:List aG)(t:TS):TS:=
 match Fj t.sx with
 |some r=>match H[r]? with
  |some ⟨.row ..,_,_⟩=>(match t.sx with| .ref .. =>⟨[],.none⟩|_=>t)
  |some ⟨.box ..,_,_⟩|some ⟨.mp ..,_,_⟩|some ⟨.sit ..,_,_⟩=>t
  |_=>⟨[],.none⟩
 |none=>t
def Jf(h:Hint)(tw:List Nat)(S:SS):SS×List E×Ren:=
 let (ts,st):=acH S h tw 0 S.tmps {nv:=S.nv,es:=[],π:=[],blks:=S.blks}
 let st:=acI S h tw 0 S.blks st
 ({tmps:=ts.map (aqv st.blks),blks:=st.blks,nv:=st.nv},st.es,st.π)
def qM:Code->List Oper
 | .region _ ops _=>ops.toList
 | .seq a b=>qM a++qM b
 | .cond _ a b=>qM a++qM b
 | .block _ c=>qM c
 | .loop c=>qM c
 | .scope c=>qM c
 |_=> []
def conds:Code->List Nat
 | .seq a b=>conds a++conds b
 | .cond c a b=>(match c with| .tmp t=> [t]|_=> [])++conds a++conds b
 | .block _ c=>conds c
 | .loop c=>conds c
 |_=> []
def tmpsOf(o:Op):List Nat:=o.operands.toList.filterMap fun| .tmp t=>some t|_=>none
def exposed:List Oper->List Nat->List Nat
 | [],_=> []
 |o::l,w=>(tmpsOf o.op).filter (fun t=> !w.contains t)++exposed l (match o.dst with|some d=>d::w|none=>w)
def vM(ops:List Oper)(t:Nat):Option Op:=(ops.find? fun o=>o.dst==some t).map (·.op)
def isApp(o:Op):Bool:=match o with| .call {callee:= .builtin .append,.. }=>true|_=>false
def Pq(S:SS)(t:Nat):Option (Nat×Sh):=match S.tmps[t]? with|some ⟨_,.ref r _ _ s _⟩=>some (r,s)|_=>none
def EJ(S:SS)(t:Nat):Option Nat:=match S.tmps[t]? with|some ⟨_,.full r _⟩|some ⟨_,.view r _ _⟩=>some r|_=>none
def rW(ops:List Oper)(t:Nat):Nat:=match vM ops t with|some (.move (.tmp v))=>v|_=>t
def apR(S:SS)(ops:List Oper)(q:Nat):Option Nat:=match vM ops q with
 |some (.load _ (.tmp a))=>match vM ops a with
  |some (.fieldAddr _ (.tmp b) j)=>match Pq S b with
   |some (r,s)=>match s.bZ j with
    |some (_,off)=>match S.blks[r]? with
     |some ⟨.box cs,_,_⟩=>(cs[off]?).bind Fj
     |_=>none
    |none=>none
   |none=>none
  |_=>none
 |_=>none
def apt(off n:Nat):List Nat:=(List.range n).map (off+·)
def aqF(cfg:dA)(o:Op):Bool:=isApp o||(match o with| .call {callee:= .value (.func f),.. }=>cfg.owns f|_=>false)
def IV:List (Nat×Option Nat)->List Nat->List (Nat×Nat)
 | [],_=> []
 |(t,some r)::l,f=>(t,r)::IV l f
 |(t,none)::l,r::f=>(t,r)::IV l f
 |(_,none)::l,[]=>IV l []
def aqe(S:SS)(n t:Nat):Option Nat:=match EJ S t with|some r=>if n<=r then some r else none|none=>none
def ap5(S:SS)(r:Nat):Bool:=match S.blks[r]? with|some ⟨.row ..,_,_⟩|some ⟨.box _,_,_⟩|some ⟨.mp ..,_,_⟩|some ⟨.sit ..,_,_⟩=>true|_=>false
def acs(S:SS)(t:Nat):Option Nat:=match S.tmps[t]? with|some ⟨_,.rF r⟩|some ⟨_,.uT r⟩=>some r|_=>none
def aaL(cfg:dA)(c:Code)(S:SS):Hint:=
 let ops:=qM c
 let tw:=writes c
 let ex:=exposed ops []
 let as:=ops.filterMap fun o=>match o.op with| .assign _=>o.dst|_=>none
 let app:=ops.filterMap fun o=>if aqF cfg o.op then o.dst else none
 let app:=app++ops.filterMap fun o=>match o.op,o.dst with| .extract (.tmp t) 0,some d=>if app.contains t then some d else none|_,_=>none
 let n:=S.tmps.length
 let own:=(ops.filterMap fun o=>match o.op,o.dst with
  | .assign (.tmp x),some t=>if app.contains x then some t else none
  |_,_=>none).eraseDups
 let own:=own.map fun t=>(t,aqe S n t)
 let own:=IV own (((List.range 8).map (n+·)).filter fun r=> !ap5 S r&& !(own.any fun x=>x.2==some r))
 let stores:=ops.filterMap fun o=>match o.op with| .store _ (.tmp a) (.tmp x)=>some (a,some x)| .store _ (.tmp a) _=>some (a,none)|_=>none
 let touched:=stores.filterMap fun (a,x)=>match vM ops a with
  |some (.fieldAddr _ (.tmp b) j)=>match Pq S b with
   |some (r,s)=>match s.bZ j with|some (s',off)=>some (r,off,s'.size,x)|none=>none
   |none=>none
  |none=>match Pq S a with|some (r,s)=>some (r,0,s.size,x)|none=>none
  |_=>none
 let cells:=((touched.filterMap fun (r,off,_,x)=>match x with|some x=>if app.contains x then some (r,off) else none|none=>none).eraseDups).zipIdx.map fun ((r,off),i)=>(r,off,n+8+i)
 let PO:=(touched.flatMap fun (r,off,k,_)=>(apt off k).map fun j=>(r,j)).eraseDups
 let Dl:=stores.filterMap fun (a,_)=>match vM ops a with
  |some (.indexAddr _ (.tmp q) _)=>(EJ S (rW ops q)).orElse fun _=>apR S ops (rW ops q)
  |some (.fieldAddr _ (.tmp b) _)=>match vM ops b with|some (.indexAddr _ (.tmp q) _)=>EJ S (rW ops q)|_=>none
  |_=>none
 let copies:=ops.filterMap fun o=>match o.op with
  | .call {callee:= .builtin .copy,args,.. }=>match args.toList with
   |(.tmp a)::_=>match vM ops a with|some (.slice _ (.tmp q) _ _ _)=>EJ S (rW ops q)|_=>EJ S (rW ops a)
   |_=>none
  |_=>none
 let objs:=ops.filterMap fun o=>match o.op with
  | .mapUpdate _ (.tmp m) _ _=>acs S (rW ops m)
  | .next (.tmp i) _=>acs S (rW ops i)
  |_=>none
 {key:=0,slots:=(ex++as++conds c).filter (fun t=>tw.contains t),own,cells,Dl:=(Dl++copies++objs).eraseDups,PO}
def acK(H:SX)(S:SX):List (E×E)×Ren:=
 match H,S with
 | .dat _ e,.dat _ e'=>([(e,e')],[])
 | .full r n,.full r' n'=>([(n,n')],[(r,some r')])
 | .full r _,.dat _ .aK=>([],[(r,none)])
 |_,_=>([],[])
def Jk{α:Type}(f:α->α->List (E×E)×Ren):List α->List α->List (E×E)×Ren
 |x::l,y::m=>let (a,b):=f x y;let (c,d):=Jk f l m;(a++c,b++d)
 |_,_=>([],[])
def aqg(H S:aG):List (E×E)×Ren:=
 match H.lb,S.lb with
 | .box cs,.box cs'=>Jk acK cs cs'
 | .mp _ _ e,.mp _ _ e'=>([(e,e')],[])
 | .sit _ p,.sit _ p'=>([(p,p')],[])
 |_,_=>([],[])
def OM:Ren->Ren->Ren
 |π,[]=>π
 |π,x::l=>if π.any (fun y=>y.1==x.1) then OM π l else OM (π++ [x]) l
def rowsOf(own:Ren):Nat->List aG->Ren
 |_,[]=> []
 |r,b::l=>match b.lb with
  | .row .. =>if own.any (fun y=>y.1==r) then rowsOf own (r+1) l else (r,some r)::rowsOf own (r+1) l
  |_=>rowsOf own (r+1) l
def guess(base k:Nat)(H S:SS):List E×Ren:=
 let (a,p):=Jk (fun x y:TS=>acK x.sx y.sx) H.tmps S.tmps
 let (b,q):=Jk aqg H.blks S.blks
 let π:=OM [] (p++q)
 let π:=π++rowsOf π 0 H.blks
 let rows:=π.filterMap fun (r,o)=>match rowAt H r with
  |some (_,e,_)=>match o with
   |some r'=>(rowAt S r').map fun (_,e',_)=>(e,e')
   |none=>some (e,.nil)
  |none=>none
 let eqs:=a++b++rows
 ((List.range k).map fun i=>((eqs.find? fun x=>decide (x.1= .vq (base+i))).map (·.2)).getD .nil,π)
def looks(ops:List Oper)(o:Oper):List Nat:=
 o.op.operands.toList.filterMap (fun| .tmp t=>some t|_=>none)++(match o.guard with|some (j,_)=>((ops[j]?).bind (·.dst)).toList|none=> [])
def indep(cfg:dA)(ops:List Oper)(a x:Oper):Bool:=
 (match a.dst with|some d=> !(looks ops x).contains d&&x.dst !=some d|none=>true)&&
 ((match x.dst with|some d=> !(looks ops a).contains d|none=>true)&&
 match cls cfg a,cls cfg x with
 | .P,_|_,.P=>true
 | .R,.R| .R,.call| .call,.R| .R,.A| .call,.A| .R,.L| .call,.L| .A,.A| .L,.A=>true
 |_,_=>false)
def pq:List Oper->List Nat->List Nat
 | [],acc=>acc
 |o::l,acc=>pq l (acc++ [o.after.toList.foldl (fun m e=>if Region.binds .any e then m|||2^e.on|||acc.getD e.on 0 else m) 0])
def aoX(cfg:dA)(ops:List Oper)(an:List Nat):Bool:=
 ops.zipIdx.all fun (x,j)=>ops.zipIdx.all fun (a,i)=> !(i<j)||(an.getD j 0).testBit i||indep cfg ops a x
def OJ(ops:List Oper):Bool:=ops.zipIdx.all fun (o,i)=>o.after.toList.all fun e=> !Region.binds .any e||e.on<i
def xk(P:Program)(cfg:dA)(ops:List Oper):Bool:=P.follows .mixedOrders&&(OJ ops&&aoX cfg ops (pq ops []))
def DL(bs:List aG)(r:Nat)(es:Sh)(e i:E)(fo:Nat)(s:Sh)(bZ:Option Nat)(x:SX):Option (List dM):=
 match iF (aY bs) [] x with
 |some (s',ex,f)=>
  if s=s'&& !f.contains r then
   match bZ with
   |none=>if s=es then some (f.map .aV++ [.put r ⟨.row es (.set e i ex),false,[]⟩]) else none
   |some j=>if es.bZ j=some (s,fo) then some (f.map .aV++ [.put r ⟨.row es (.set e i (.mP j (.idx e i) ex)),false,[]⟩]) else none
  else none
 |none=>none
def DR(bs:List aG)(r:Nat)(cs:List SX)(fo:Nat)(s:Sh)(x:SX):Option (List dM):=
 match x with
 | .dat s' ex=>if s=s'&&fo+s.size<=cs.length then some [.put r ⟨.box (cs.take fo++(flat s ex++cs.drop (fo+s.size))),false,[]⟩] else none
 | .full r' n=>match rowOf (aY bs) [] r' with
  |some (es,_)=>if s= .sl es&&fo<cs.length then some [.put r ⟨.box (cs.set fo (.full r' n)),false,[]⟩] else none
  |none=>none
 |_=>none
def tZ(P:Program)(bs:List aG)(t:TypeId)(a x:Option SX):Option (List dM):=
 match a,x with
 |some (.ref r i fo s bZ),some x=>if iB P t s then match bs[r]? with
   |some ⟨.row es e,false,[]⟩=>DL bs r es e i fo s bZ x
   |some ⟨.box cs,false,[]⟩=>DR bs r cs fo s x
   |_=>none
  else none
 |_,_=>none
def BN(P:Program)(keep:Bool)(bs:List aG)(ts:Array TypeId)(d:Nat)(a b:Option SX):Option (SX×List dM×List Ob):=
 match nu P (ts.getD 0 0),a,b with
 |some et,some sa,some sb=>
  match oV P bs et (ts.getD 1 0) sb with
  |none=>none
  |some (s,m,f)=>
   if ts.size=2&&(zeroE P et s).isSome&&iB P et s&&s.size !=0&&P.bytesOf et !=0 then
    match sa with
    | .dat (.sl s') .aK=>if s=s'&&nT bs d then some (.full d (ny m),[.put d ⟨.row s m,false,[]⟩],[.aj [] (.cmp .leq (.raw .mul (.len m) (.int (P.bytesOf et))) (.int 140737488355328))]) else none
    | .full r n=>match ownRow bs r with
     |some (s',e)=>
      if keep then
       if s=s'&& !f.contains r then
        some (.dat (.sl s) (.app e m),[.put r ⟨.row s e,true,[]⟩],[.aj [] (.cmp .leq (.raw .mul (.raw .add n (.len m)) (.int (P.bytesOf et))) (.int 140737488355328))])
       else none
      else if s=s'&& !f.contains r&&nT bs d then
       some (.full d (.raw .add n (ny m)),[.put r ⟨.dead,false,[]⟩,.put d ⟨.row s (.app e m),false,[]⟩],[.aj [] (.cmp .leq (.raw .mul (.raw .add n (.len m)) (.int (P.bytesOf et))) (.int 140737488355328))])
      else none
     |none=>none
    |_=>none
   else none
 |_,_,_=>none
def Ao(P:Program)(bs:List aG)(ts:Array TypeId)(a b:Option SX):Option (SX×List dM):=
 match nu P (ts.getD 0 0),a,b with
 |some et,some sa,some sb=>
  match uE P bs (ts.getD 1 0) sb,Kg sa with
  |some (s,m,_),some (r,off,n)=>match ownRow bs r with
   |some (s',e)=>if s=s'&&iB P et s&&ts.size=2 then
     some (.dat (.int .i64) (.l9 (ny m) n),[.put r ⟨.row s (.splice e off (.sub m (.int 0) n)),false,[]⟩])
    else none
   |none=>none
  |_,_=>none
 |_,_,_=>none
def qW(P:Program)(cfg:dA)(o:Oper)(ev:Ev)(bs:List aG):Option (SX×List dM×List Ob):=
 match o.op with
 | .store t a x=>match tZ P bs t (ev [] a 0) (ev [] x t) with|some cs=>some (.none,cs,[])|none=>none
 | .call {callee:= .builtin .append,args,argTypes}=>match args.toList,o.dst with
  | [a,b],some d=>BN P (cfg.keep o) bs argTypes d (ev [] a (argTypes.getD 0 0)) (ev [] b (argTypes.getD 1 0))
  |_,_=>none
 | .call {callee:= .builtin .copy,args,argTypes}=>match args.toList with
  | [a,b]=>match Ao P bs argTypes (ev [] a (argTypes.getD 0 0)) (ev [] b (argTypes.getD 1 0)) with|some (x,cs)=>some (x,cs,[])|none=>none
  |_=>none
 | .convert src dst x=>if src=dst then match yh P bs src (ev [] x src) with|some (s,e,r)=>some (.dat (.sl s) e,[.put r ⟨.dead,false,[]⟩],[])|none=>none else none
 | .mapUpdate t m k x=>match yg P bs t (ev [] m t) (nU (ev [] k 0)) (ev [] x 0) with|some (r,b)=>some (.none,[.put r b],[])|none=>none
 | .next it true=>match x9 bs (ev [] it 0) with|some (x,r,b)=>some (x,[.put r b],[])|none=>none
 |_=>none
def sK(P:Program)(cfg:dA)(o:Oper)(ev:Ev)(bs:List aG)(nv:Nat):Option (SX×List dM×List Ob×Nat):=
 match o.op,o.dst with
 | .call {callee:= .value (.func f),args,argTypes},some d=>
  if cfg.grow.contains f then none
  else if cfg.fresh.contains f then
   match Ae P o.type with
   |some (.sl s::aF)=>
    match lq ev (aY bs) [] args.toList argTypes.toList with
    |some (l,fz)=>
     if s.size !=0&&(nT bs d&&f<1000000) then
      some (vF d nv aF,(kD s aF fz).map .aV++ [.put d ⟨.row s (.vq nv),false,[]⟩],[.call [] (2000000+f) l (.sl s::aF)],1+aF.length)
     else none
    |none=>none
   |_=>none
  else none
 |_,_=>none
def coreC(P:Program)(cfg:dA)(o:Oper)(pc:aM)(ev:Ev)(bs:List aG)(nv:Nat):Option (SX×List dM×Nat×List Ob):=
 if cls cfg o= .W then
  if pc=[] then match qW P cfg o ev bs with
   |some (x,cs,obs)=>if eP obs=0 then some (x,cs,0,obs) else none
   |none=>none
  else none
 else if cls cfg o= .G then
  if pc=[] then match sK P cfg o ev bs nv with
   |some (x,cs,obs,n)=>if eP obs=n then some (x,cs,n,obs) else none
   |none=>none
  else none
 else match fA P cfg o pc ev (aY bs) nv with
  |some out=>if eP out.obs=out.nv then some (out.x,out.cmds,out.nv,out.obs) else none
  |none=>none
structure FP where
 F:List Nat
 W:List Nat
 Z:List Nat
def adM:aG:=⟨.none,false,[]⟩
def iO(F:List Nat)(bs:List aG):List aG:=bs.mapIdx fun i b=>if F.contains i then b else adM
def yj(φ:FP):dM->Bool
 | .put r _=>φ.W.contains r
 | .aV r=>φ.Z.contains r
def FJ(φ:FP)(o:Oper):Bool:=match o.dst with|some d=>φ.F.contains d|none=>true
def J2(o:Oper):Bool:=match o.op with| .indexAddr .. =>true|_=>false
def JZ(o:Oper):Bool:=match o.op with| .store .. =>true|_=>false
def nZ(P:Program)(cfg:dA)(φ:Oper->FP)(ops:List Oper)(o:Oper)(S:SS):Option (SS×List Ob):=
 match qG S ops o with
 |none=>none
 |some pc=>match coreC P cfg o pc (S.ev P) (iO (φ o).F S.blks) S.nv with
  |some (x,cs,n,ob)=>
   if cs.all (yj (φ o))&&FJ (φ o) o then some ({tmps:=cO S.tmps o.dst ⟨pc,x⟩,blks:=aW cs S.blks,nv:=S.nv+n},ob) else none
  |none=>none
def qV(step:Oper->SS->Option (SS×List Ob)):List Oper->SS->Option (SS×List Ob)
 | [],S=>some (S,[])
 |o::r,S=>match step o S with
  |none=>none
  |some (S1,obs)=>match qV step r S1 with
   |none=>none
   |some (S2,PD)=>some (S2,obs++PD)
def apart(a b:List Nat):Bool:=a.all fun r=> !b.contains r
def Db(cfg:dA)(o:Oper):Bool:=cls cfg o== .W||cls cfg o== .G
def wL(cfg:dA)(o:Oper):Bool:=cls cfg o== .call||cls cfg o== .G
def ET(cfg:dA)(φ:Oper->FP)(ops:List Oper)(a x:Oper):Bool:=
 (match a.dst with|some d=> !(looks ops x).contains d&&x.dst !=some d|none=>true)&&
 ((match x.dst with|some d=> !(looks ops a).contains d|none=>true)&&
 ((apart (φ a).W (φ x).F||JZ a&&J2 x)&&((apart (φ x).W (φ a).F||JZ x&&J2 a)&&(apart (φ a).W (φ x).W&&(apart (φ a).W (φ x).Z&&(apart (φ x).W (φ a).Z&&
 ((!Db cfg x||apart (φ a).Z (φ x).F)&&((!Db cfg a||apart (φ x).Z (φ a).F)&&(!wL cfg a|| !wL cfg x)))))))))
def Z8(cfg:dA)(φ:Oper->FP)(ops:List Oper)(an:List Nat):Bool:=
 ops.zipIdx.all fun (x,j)=>ops.zipIdx.all fun (a,i)=> !(i<j)||(an.getD j 0).testBit i||ET cfg φ ops a x
def keyOf(o:Oper):Nat:=match o.dst with
 |some d=>2*d
 |none=>match o.op with| .store _ (.tmp a) _=>2*a+1| .mapUpdate _ (.tmp a) (.tmp b) _=>2*(1000*a+b)+1|_=>1
def aqw(bs:List aG)(x:SX):List Nat:=match Fj x with
 |some r=>r::(match bs[r]? with|some ⟨.box cs,_,_⟩=>cs.filterMap Fj|_=> [])
 |none=>match x with| .yA r _ _=> [r]|_=> []
def arh(cfg:dA)(S:SS)(o:Oper)(cs:List dM):FP:=
 {F:=(if cls cfg o= .P then [] else (tmpsOf o.op).flatMap (fun t=>match S.tmps[t]? with|some ts=>aqw S.blks ts.sx|none=> []))++o.dst.toList
  W:=cs.filterMap fun| .put r _=>some r|_=>none
  Z:=cs.filterMap fun| .aV r=>some r|_=>none}
def adP(P:Program)(cfg:dA)(ops:List Oper):List Oper->SS->List (Nat×FP)
 | [],_=> []
 |o::l,S=>match qG S ops o with
  |none=> []
  |some pc=>match coreC P cfg o pc (S.ev P) S.blks S.nv with
   |some (x,cs,n,_)=>(keyOf o,arh cfg S o cs)::adP P cfg ops l {tmps:=cO S.tmps o.dst ⟨pc,x⟩,blks:=aW cs S.blks,nv:=S.nv+n}
   |none=> []
def aeh(T:List (Nat×FP))(o:Oper):FP:=((T.find? fun x=>x.1==keyOf o).map (·.2)).getD ⟨[],[],[]⟩
def Mw(P:Program)(cfg:dA)(ops:List Oper)(S:SS):Bool:=
 match adP P cfg ops ops S with
 |T=>P.follows .mixedOrders&&(OJ ops&&(Z8 cfg (aeh T) ops (pq ops [])&&(qV (nZ P cfg (aeh T) ops) ops S).isSome))
def Jg(c:E):SX->SX->SX
 | .dat s e,.dat s' e'=>if s=s' then (if e=e' then .dat s e else .dat s (.ite c e e')) else .none
 |x,y=>if x=y then x else .none
def xE(c:E):List TS->List TS->List TS
 |x::l,y::m=>(if x.bM=[]/\y.bM=[] then ⟨[],Jg c x.sx y.sx⟩ else ⟨[],.none⟩)::xE c l m
 |_,_=> []
def zN(c:E):List SX->List SX->Option (List SX)
 | [],[]=>some []
 |x::l,y::m=>match zN c l m with
  |some r=>if x=y then some (x::r) else match x,y with
   | .dat s e,.dat s' e'=>if s=s' then some (.dat s (.ite c e e')::r) else none
   |_,_=>none
  |none=>none
 |_,_=>none
def OB(c:E)(x y:aG):Option aG:=
 if x=y then some x else match x,y with
 |⟨.box cs,f,[]⟩,⟨.box cs',f',[]⟩=>if f=f' then (match zN c cs cs' with|some r=>some ⟨.box r,f,[]⟩|none=>none) else none
 |_,_=>none
def zO(c:E):List aG->List aG->Option (List aG)
 | [],[]=>some []
 |x::l,y::m=>match OB c x y,zO c l m with
  |some b,some r=>some (b::r)
  |_,_=>none
 |_,_=>none
def OA(c:E)(S S':SS):Option SS:=
 if S.tmps.length=S'.tmps.length/\S.nv=S'.nv then match zO c S.blks S'.blks with
  |some bs=>some {tmps:=xE c S.tmps S'.tmps,blks:=bs,nv:=S.nv}
  |none=>none
 else none
def Ob.under(p:aM):Ob->Ob
 | .aj q e=> .aj (p++q) e
 | .call q f a r=> .call (p++q) f a r
def prun(P:Program)(cfg:dA):Code->SS->Option (SS×List Ob)
 | .skip,S=>some (S,[])
 | .region _ ops draw,S=>
  if draw&& !xk P cfg ops.toList then none else
  match j6 P cfg ops.toList ops.toList S with
  |some (S',obs)=>if S'.nv=S.nv then some (S',obs) else none
  |none=>none
 | .seq a b,S=>match prun P cfg a S with
  |some (S1,o1)=>match prun P cfg b S1 with
   |some (S2,o2)=>some (S2,o1++o2)
   |none=>none
  |none=>none
 | .cond c a b,S=>match S.ev P [] c 0 with
  |some (.dat .bool e)=>match prun P cfg a S,prun P cfg b S with
   |some (S1,o1),some (S2,o2)=>match OA e S1 S2 with
    |some M=>some (M,o1.map (Ob.under [(e,true)])++o2.map (Ob.under [(e,false)]))
    |none=>none
   |_,_=>none
  |_=>none
 |_,_=>none
inductive XE where
 |normal
 |exit (id:Nat)
 |ret
def sx(P:Program)(cfg:dA)(hints:List Hint):Code->SS->Nat->(XE->SS->Nat->VC)->VC
 | .skip,S,l,K=>K .normal S l
 | .region id ops draw,S,l,K=>
  if draw&& !(xk P cfg ops.toList||Mw P cfg ops.toList S) then .fail (1000000+id) else
  match j6 P cfg ops.toList ops.toList S with
  |some (S',obs)=>if S.bd S.nv&&Cm S.nv obs then FE obs (K .normal S' l) else .fail (2000000+id)
  |none=> .fail (1000*id+aaT P cfg ops.toList 0 ops.toList S)
 | .seq a b,S,l,K=>sx P cfg hints a S l fun e S' l=>match e with| .normal=>sx P cfg hints b S' l K|e=>K e S' l
 | .cond c a b,S,l,K=>match S.ev P [] c 0 with
  |some (.dat .bool e)=>match e with
   | .bool true=>sx P cfg hints a S l K
   | .bool false=>sx P cfg hints b S l K
   |e=>match prun P cfg (.cond c a b) S with
    |some (M,obs)=>if S.bd S.nv&&Cm S.nv obs then FE obs (K .normal M l) else .fail 3000001
    |none=>
     if cfg.cuts.contains (tN a) then
      match Jf (aaL cfg (.cond c a b) S) (writes (.cond c a b)) S with
      |(H,es,_)=>
       if H.nv=S.nv+es.length&&H.bd H.nv then
        .cut es.length (.cond e (sx P cfg hints a S (l+1) fun x S' l'=>match x with
         | .normal=>match guess S.nv es.length H S' with
          |(es',π')=>if xH S.nv es' π' H S'&&es'.length=es.length then .back l es' else .fail (4000000+tN a)
         |x=>K x S' l') (sx P cfg hints b S (l+1) fun x S' l'=>match x with
         | .normal=>match guess S.nv es.length H S' with
          |(es',π')=>if xH S.nv es' π' H S'&&es'.length=es.length then .back l es' else .fail (4500000+tN a)
         |x=>K x S' l')) (K .normal H l)
       else .fail (4900000+tN a)
     else .cond e (sx P cfg hints a S l K) (sx P cfg hints b S l K)
  |some (.Av e)=> .wM e (sx P cfg hints a S l K) (sx P cfg hints b S l K)
  |_=> .fail 3000000
 | .block id c,S,l,K=>sx P cfg hints c S l fun e S' l=>match e with
  | .exit id'=>if id'=id then K .normal S' l else K (.exit id') S' l
  |e=>K e S' l
 | .exit id,S,l,K=>K (.exit id) S l
 | .ret,S,l,K=>K .ret S l
 | .loop c,S,l,K=>
  match Jf (match hints.find? (fun h=>h.key==tN c) with|some h=>h|none=>aaL cfg c S) (writes c) S with
  |(H,es,π)=>
   if xH S.nv es π H S&&(H.nv=S.nv+es.length&&(H.bd H.nv&&S.bd S.nv)) then
    .loop es (sx P cfg hints c H (l+1) fun e S' l'=>match e with
     | .normal=>
      match guess S.nv es.length H S' with
      |(es',π')=>if xH S.nv es' π' H S'&&es'.length=es.length then .back l es' else .fail (5000000+tN c)
     |e=>K e S' l')
   else .fail (6000000+tN c)
 |_,_,_,_=> .fail 7000000
def aoO(c:Code):List Nat:=
 let ops:=qM c
 let lits:=ops.filterMap fun o=>match o.op with| .buildSlice .. =>o.dst|_=>none
 let aej:=ops.flatMap fun o=>match o.op with
  | .call {callee:= .builtin .append,args,.. }=>match args.toList with|(.tmp a)::_=> [a,rW ops a]|_=> []
  | .call {callee:= .builtin .copy,args,.. }=>match args.toList with|(.tmp a)::_=> [a,rW ops a]|_=> []
  | .store _ (.tmp a) _=>match vM ops a with|some (.indexAddr _ (.tmp q) _)=> [q,rW ops q]|_=> []
  | .convert s t (.tmp a)=>if s=t then [a] else []
  |_=> []
 lits.filter fun t=>aej.contains t||ops.any fun o=>match o.op,o.dst with| .assign (.tmp x),some v=>x==t&&aej.contains v|_,_=>false
def Md(t v:Nat):List Oper->Bool
 | []=>false
 |o::l=>(tmpsOf o.op).any (fun x=>x==t||x==v)||(match o.op,o.dst with| .assign _,some d=>if d==v then false else Md t v l|_,_=>Md t v l)
def acD(ops:List Oper):List Oper->List Nat
 | []=> []
 |o::l=>(match o.op,o.dst with
  | .call {callee:= .builtin .append,args,.. },some d=>match args.toList with
   |(.tmp a)::_=>if Md a (rW ops a) l then [d] else []
   |_=> []
  |_,_=> [])++acD ops l
def apb(c:Code):List Nat:=acD (qM c) (qM c)
def marksOf(c:Code):List Nat:=
 let ops:=qM c
 ops.filterMap fun o=>match o.op with
  | .convert s t (.tmp a)=>if s=t then (match vM ops a with|some (.buildSlice ..)=>o.dst|_=>none) else none
  |_=>none
def yx(P:Program)(S:SS):List ResultVar->Option (List (Sh×E))
 | []=>some []
 | .tmp t::l=>match (S.ev P [] (.tmp t) 0).bind (iF S.rb []),yx P S l with
  |some (s,e,_),some r=>some ((s,e)::r)
  |_,_=>none
 | .cell t ty::l=>match (vK P S.rb [] ty (S.ev P [] (.tmp t) 0)).bind (fun o=>iF S.rb [] o.x),yx P S l with
  |some (s,e,_),some r=>some ((s,e)::r)
  |_,_=>none
def pV(bY:List Sh)(n:Nat):SS:=
 {tmps:=(iq 0 bY).map (fun (s,e)=>⟨[],.dat s e⟩)++List.replicate (n-bY.length) ⟨[],.none⟩,blks:=List.replicate (n+16) ⟨.none,false,[]⟩,nv:=bY.length}
def PU(P:Program)(cfg:dA)(hints:List Hint)(fn:Func)(bY:List Sh):VC:=
 match fn.body with
 |none=> .fail 8000000
 |some c=>sx P cfg hints c (pV bY fn.ntmps) 0 fun e S _=>match e with
  | .exit _=> .fail 8000001
  |_=>match yx P S fn.results.toList with
   |some rs=> .ret rs
   |none=> .fail 8000002
def qO:Sh->E->Bool
 | .sl _,.aK=>true
 | .sl _,_=>false
 | .pair a b,.cons x y=>qO a x&&qO b y
 | .pair a b,_=>a.fQ&&b.fQ
 | .bP _ _,_| .mp _ _,_=>false
 |_,_=>true
def Pn(P:Program)(cfg:dA)(hints:List Hint)(fn:Func)(bY:List Sh):VC:=
 match fn.body with
 |none=> .fail 8000000
 |some c=>sx P cfg hints c (pV bY fn.ntmps) 0 fun e S _=>match e with
  | .exit _=> .fail 8000001
  |_=>match fn.results.toList with
   | [.tmp t]=>match S.ev P [] (.tmp t) 0 with
    |some (.dat s e)=>if qO s e then .ret [(s,e)] else .fail 8000004
    |_=> .fail 8000002
   | [.cell t ty]=>match vK P S.rb [] ty (S.ev P [] (.tmp t) 0) with
    |some ⟨.dat s e,_,_,_⟩=>if qO s e then .ret [(s,e)] else .fail 8000004
    |_=> .fail 8000002
   |_=> .fail 8000002
def Aq(P:Program)(S:SS):List ResultVar->Option (List (Sh×E)×List Nat)
 | []=>some ([],[])
 | .tmp t::l=>match (S.ev P [] (.tmp t) 0).bind (iF S.rb []),Aq P S l with
  |some (s,e,f),some (r,g)=>some ((s,e)::r,f++g)
  |_,_=>none
 | .cell .. ::_=>none
def Cz(P:Program)(S:SS):List ResultVar->Option (List (Sh×E))
 | .tmp t::l=>match S.ev P [] (.tmp t) 0 with
  |some (.full r _)=>match ownRow S.blks r,Aq P S l with
   |some (s,e),some (rs,fz)=>if !fz.contains r then some ((.sl s,e)::rs) else none
   |_,_=>none
  |some (.dat (.sl s) .aK)=>match Aq P S l with
   |some (rs,_)=>some ((.sl s,.aK)::rs)
   |none=>none
  |_=>none
 |_=>none
def rX(s:Sh)(bY:List Sh)(n:Nat):SS:=
 {tmps:=(⟨[],.full (n+16) (.len (.vq 0))⟩::(iq 1 bY).map (fun (s,e)=>⟨[],.dat s e⟩))++List.replicate (n-(bY.length+1)) ⟨[],.none⟩,
  blks:=List.replicate (n+16) ⟨.none,false,[]⟩++ [⟨.row s (.vq 0),false,[]⟩],nv:=bY.length+1}
def Po(P:Program)(cfg:dA)(hints:List Hint)(fn:Func)(s:Sh)(bY:List Sh):VC:=
 if s.size !=0 then match fn.body with
 |none=> .fail 8000000
 |some c=>sx P cfg hints c (rX s bY fn.ntmps) 0 fun e S _=>match e with
  | .exit _=> .fail 8000001
  |_=>match Cz P S fn.results.toList with
   |some rs=> .ret rs
   |none=> .fail 8000002
 else .fail 8000003
def Pp(P:Program)(cfg:dA)(hints:List Hint)(fn:Func)(bY:List Sh):VC:=
 match fn.body with
 |none=> .fail 8000000
 |some c=>sx P cfg hints c (pV bY fn.ntmps) 0 fun e S _=>match e with
  | .exit _=> .fail 8000001
  |_=>match Cz P S fn.results.toList with
   |some rs=> .ret rs
   |none=> .fail 8000002
end Go.Vc
namespace Go.Vc
open Go.RowKit
structure Wb where
 w:World
 G:Nat->Prop
def Wb.own(w0:Wb)(b:Nat):Prop:=w0.w.heap.size<=b\/w0.G b
structure nY (P:Program) (w0:Wb) (w:World):Prop where
 os:w.os=w0.w.os
 tape:w.tape=w0.w.tape
 output:w.output=w0.w.output
 size:w0.w.heap.size<=w.heap.size
 block:∀k,k<w0.w.heap.size->¬w0.G k->w.heap[k]?=w0.w.heap[k]?
 kw:KW P w0.w
 kb:∀g,uW P g->¬w0.G g
def eG(k:aG):Bool:=match k.lb with| .row .. | .box _| .mp .. | .sit .. =>true|_=>false
def NN(N0:Nat->Prop)(B:Nat->Prop)(ρ:List C)(bs:List aG)(hv:Nat->Value)(b:Nat):Prop:=
 (N0 b\/B b)/\∀r k,bs[r]?=some k->eG k=true->k.fI=false->aS ρ k.bM->bH (hv r)≠some b
def Exact:Sh->E->List Value->Prop
 | .sl _,.aK,vs=>vs=[.slice none 0 0]
 | .pair a b,.cons x y,vs=>∃va vb,vs=va++vb/\va.length=a.size/\Exact a x va/\Exact b y vb
 |_,_,_=>True
def bV(bs:List aG)(r:Nat):Option (Sh×E×aM):=match bs[r]? with|some ⟨.row s e,_,p⟩=>some (s,e,p)|_=>none
def dZ(bs:List aG)(r:Nat):Option (List SX×aM):=match bs[r]? with|some ⟨.box cs,_,p⟩=>some (cs,p)|_=>none
def Co(bs:List aG)(r:Nat):Option (IntKind×Sh×E×aM):=match bs[r]? with|some ⟨.mp k s e,_,p⟩=>some (k,s,e,p)|_=>none
def jy(bs:List aG)(ρ:List C)(r:Nat):Prop:=∃k,bs[r]?=some k/\eG k=true/\aS ρ k.bM
def known(bs:List aG)(r:Nat):Prop:=∃k,bs[r]?=some k/\k.lb≠ .none
def bB(w : World)(N : Nat -> Prop)(ρ : List C)(bs : List aG)(hv : Nat -> Value) : SX -> Value -> Prop
  | .none, _ => True
  | .dat s e, v => ∃ vs, Rd w N s vs (e.eval ρ) /\ v = s.mk vs /\ Exact s e vs
  | .res l, v => (∃ vs, v = .tuple vs.toArray /\ dH w N (dS ρ l) vs) /\ ∀ x ∈ l, ∀ vs, Exact x.1 x.2 vs
  | .yA r n l, v => known bs r /\ ∃ v1 vr, v = .tuple (v1 :: vr).toArray /\ (∀ s e p, bV bs r = some (s, e, p) -> aS ρ p -> v1 = hv r /\ (n.eval ρ).toInt = ((e.eval ρ).toList.length : Int)) /\
      dH w N (dS ρ l) vr /\ ∀ x ∈ l, ∀ vs, Exact x.1 x.2 vs
  | .full r n, v => known bs r /\ ∀ s e p, bV bs r = some (s, e, p) -> aS ρ p -> v = hv r /\ (n.eval ρ).toInt = ((e.eval ρ).toList.length : Int)
  | .view r off n, v => known bs r /\ ∀ s e p, bV bs r = some (s, e, p) -> aS ρ p -> ∃ o m : Nat, (off.eval ρ).toInt = (o : Int) /\ (n.eval ρ).toInt = (m : Int) /\ o + m <= (e.eval ρ).toList.length /\
      ∃ a cap, v = .slice a m cap /\ m <= cap /\ cap <= maxLen /\ (0 < m -> ∃ g, bH (hv r) = some g /\ a = some ⟨g, o * s.size, none⟩)
  | .ref r i fo s bZ, v => known bs r /\ (∀ es e p, bV bs r = some (es, e, p) -> aS ρ p -> ∃ o g : Nat, (i.eval ρ).toInt = (o : Int) /\ o < (e.eval ρ).toList.length /\ bH (hv r) = some g /\ v = .pointer (some ⟨g, o * es.size + fo, none⟩) /\
        (match bZ with | none => fo = 0 /\ s = es | some j => es.bZ j = some (s, fo))) /\
      (∀ cs p, dZ bs r = some (cs, p) -> aS ρ p -> ∃ g, bH (hv r) = some g /\ v = .pointer (some ⟨g, fo, none⟩))
  | .ptr s e, v => ∃ b off us, v = .pointer (some ⟨b, off, none⟩) /\ N b /\ b < w.heap.size /\ kZ w b off us /\ Rd w N s us (e.eval ρ) /\ Exact s e us
  | .fn f, v => v = .func (.func f) #[] #[]
  | .Av e, v => ∃ b : Bool, v = .bool b /\ (b = true -> (e.eval ρ).toList = [])
  | .uI t s name, v => ∃ us, v = .func (.method name) #[.iface t (s.mk us)] #[]
  | .rF r, v => known bs r /\ v = hv r
  | .uT r, v => known bs r /\ v = hv r
  | .wE s p, v => ∃ q : Nat, (p.eval ρ).toInt = (q : Int) /\ v = if q < (s.eval ρ).toStr.length then .tuple #[.bool true, .int .i64 (q : Int), .int .i32 ((Utf8.decode ⟨(s.eval ρ).toStr.toArray⟩ q).1 : Nat)] else .tuple #[.bool false]
  | .okF, v => ∃ z, v = .tuple #[z, .bool false]
def dY(w:World)(N:Nat->Prop)(ρ:List C)(bs:List aG)(hv:Nat->Value):List SX->List Value->Prop
 | [],vs=>vs=[]
 |x::l,vs=>∃v r,vs=v::r/\bB w N ρ bs hv x v/\dY w N ρ bs hv l r
def oq(w:World)(B:Nat->Prop)(N:Nat->Prop)(ρ:List C)(bs:List aG)(hv:Nat->Value)(r:Nat):LB->Prop
 | .row s e=>∃et xs,w.iA B et s.size (hv r) (e.eval ρ).toList.length xs/\bF w N s xs (e.eval ρ).toList/\0<s.size
 | .box cs=>∃g bt arr,hv r= .pointer (some ⟨g,0,none⟩)/\B g/\w.heap[g]?=some (.cells arr bt (0,0))/\dY w N ρ bs hv cs arr.toList
 | .mp k s e=>∃g l,hv r= .map (some g)/\B g/\mO w g k l/\l8 (fun v d=>Rd w N s [v] d) l (e.eval ρ).toList
 | .sit s p=>∃(g q:Nat),hv r= .pointer (some ⟨g,0,none⟩)/\B g/\(p.eval ρ).toInt=(q:Int)/\w.heap[g]?=some (.stringIter ⟨(s.eval ρ).toStr.toArray⟩ q)
 |_=>True
structure aJ (P:Program) (N0:Nat->Prop) (w0:Wb) (ρ:List C) (S:SS) (hv:Nat->Value) (a:Act) (w:World):Prop where
 defers:a.defers=[]
 wB:a.tmps.size=S.tmps.length
 below:nY P w0 w
 tmps:∀t ts,S.tmps[t]?=some ts->aS ρ ts.bM->bB w (NN N0 w0.own ρ S.blks hv) ρ S.blks hv ts.sx (a.tmps.getD t undef)
 und:∀t ts,S.tmps[t]?=some ts->¬aS ρ ts.bM->a.tmps.getD t undef=undef
 blks:∀r k,S.blks[r]?=some k->aS ρ k.bM->oq w w0.own (NN N0 w0.own ρ S.blks hv) ρ S.blks hv r k.lb
 dist:∀r r' k k' g,S.blks[r]?=some k->S.blks[r']?=some k'->r≠r'->eG k=true->eG k'=true->aS ρ k.bM->aS ρ k'.bM->
  bH (hv r)=some g->bH (hv r')≠some g
theorem aR(ρ:List C):aS ρ []:=fun _ h=>by cases h
theorem Bh{ρ:List C}{p q:aM}:aS ρ (p++q)↔aS ρ p/\aS ρ q:=by
 unfold aS;constructor
 .exact fun h=>⟨fun x hx=>h x (iZ.2 (.inl hx)),fun x hx=>h x (iZ.2 (.inr hx))⟩
 .rintro ⟨h1,h2⟩ x hx;rcases iZ.1 hx with h|h
  .exact h1 x h
  .exact h2 x h
theorem Bg{ρ:List C}{e:E}{b:Bool}:aS ρ [(e,b)]↔(e.eval ρ).toBool=b:=by
 simp[aS]
theorem rO{ρ:List C}{p q:aM}(h:tV p q=true)(hq:aS ρ q):aS ρ p:=by
 intro x hx;simp only[tV,nE,List.any_eq_true,aP,bR,beq_iff_eq] at h;obtain ⟨y,hy,h1,h2⟩:=h x hx;rw[h1,h2];exact hq y hy
theorem bF.length{w:World}{N:Nat->Prop}{s:Sh}:∀ {l:List C} {xs:List Value},bF w N s xs l->xs.length=l.length*s.size
 | [],_,h=>by simp only[bF] at h;subst h;simp
 |c::l,_,⟨u,r,h1,h2,h3⟩=>by
  subst h1;simp[h2.length,bF.length h3,Nat.add_mul,Nat.add_comm]
theorem bF.mono{w w':World}{N N':Nat->Prop}(hs:w.heap.size<=w'.heap.size)(hk:∀b,N b->b<w.heap.size->w'.heap[b]?=w.heap[b]?/\N' b){s:Sh}:
  ∀ {l:List C} {xs:List Value},bF w N s xs l->bF w' N' s xs l
 | [],_,h=>h
 |_::_,_,⟨u,r,h1,h2,h3⟩=>⟨u,r,h1,h2.mono hs hk,bF.mono hs hk h3⟩
theorem bF.append{w:World}{N:Nat->Prop}{s:Sh}:∀ {l m:List C} {xs ys:List Value},bF w N s xs l->bF w N s ys m->bF w N s (xs++ys) (l++m)
 | [],_,_,_,h,h'=>by simp only[bF] at h;subst h;simpa using h'
 |_::_,_,_,_,⟨u,r,h1,h2,h3⟩,h'=>⟨u,r++_,by rw[h1,dI],h2,bF.append h3 h'⟩
theorem bF.at_{w:World}{N:Nat->Prop}{s:Sh}:∀ {l:List C} {xs:List Value} {i:Nat} {c:C},bF w N s xs l->l[i]?=some c->
  Rd w N s ((xs.drop (i*s.size)).take s.size) c
 | [],_,_,_,_,hi=>by simp at hi
 |c::l,_,0,c',⟨u,r,h1,h2,h3⟩,hi=>by
  simp at hi;subst hi h1;simp[<-h2.length];exact h2
 |c::l,_,i+1,c',⟨u,r,h1,h2,h3⟩,hi=>by
  subst h1;have h4:=bF.at_ h3 (by simpa using hi);have e1:(u++r).drop ((i+1)*s.size)=r.drop (i*s.size):=by
   rw[Nat.add_mul,Nat.one_mul,<-h2.length,Nat.add_comm,wu];simp
  rw[e1];exact h4
theorem bF.drop{w:World}{N:Nat->Prop}{s:Sh}:∀ {l:List C} {xs:List Value} (i:Nat),bF w N s xs l->bF w N s (xs.drop (i*s.size)) (l.drop i)
 | [],_,i,h=>by simp only[bF] at h;subst h;simp[bF]
 |_::_,_,0,h=>by simpa using h
 |_::l,_,i+1,⟨u,r,h1,h2,h3⟩=>by
  subst h1;have h4:=bF.drop i h3;have e1:(u++r).drop ((i+1)*s.size)=r.drop (i*s.size):=by
   rw[Nat.add_mul,Nat.one_mul,<-h2.length,Nat.add_comm,wu];simp
  rw[e1];simpa using h4
theorem bF.take{w:World}{N:Nat->Prop}{s:Sh}:∀ {l:List C} {xs:List Value} (i:Nat),bF w N s xs l->bF w N s (xs.take (i*s.size)) (l.take i)
 | [],_,i,h=>by simp only[bF] at h;subst h;simp[bF]
 |_::_,_,0,h=>by simp[bF]
 |_::l,_,i+1,⟨u,r,h1,h2,h3⟩=>by
  subst h1;have h4:=bF.take i h3;refine ⟨u,r.take (i*s.size),?_,h2,h4⟩;rw[Nat.add_mul,Nat.one_mul,<-h2.length,Nat.add_comm,List.take_append];simp;exact jB (by omega)
theorem bF.set{w:World}{N:Nat->Prop}{s:Sh}{l:List C}{xs:List Value}{i:Nat}{u:List Value}{c:C}(h:bF w N s xs l)(hi:i<l.length)(hu:Rd w N s u c):
  bF w N s (xs.take (i*s.size)++(u++xs.drop ((i+1)*s.size))) (l.set i c):=by
 have e:l.set i c=l.take i++(c::l.drop (i+1)):=by
  rw[List.set_eq_take_append_cons_drop,if_pos hi]
 rw[e];exact (h.take i).append ⟨u,_,rfl,hu,h.drop (i+1)⟩
theorem qR.of_row{w:World}{N:Nat->Prop}{s:Sh}{b off:Nat}:∀ {l:List C} {xs:List Value},bF w N s xs l->kZ w b off xs->qR w s.size (Rd w N s) b off l:=by
 intro l xs h hc i c hi;refine ⟨_,(h.at_ hi).length,fun j u hu=>?_,h.at_ hi⟩;rw[mR] at hu;split at hu
 .rw[uQ] at hu;have:=hc _ _ hu;rwa[<-oD] at this
 .cases hu
theorem qR.row{w:World}{N:Nat->Prop}{s:Sh}{b:Nat}:∀ {l:List C} {off:Nat},qR w s.size (Rd w N s) b off l->∃xs,bF w N s xs l/\kZ w b off xs
 | [],_,_=>⟨[],rfl,fun _ _ h=>by simp at h⟩
 |c::l,off,h=>by
  obtain ⟨u,hl,hu,hr⟩:=h 0 c rfl;obtain ⟨xs,h1,h2⟩:=qR.row (l:=l) (off:=off+s.size) fun i c hi=>by
   obtain ⟨us,h3,h4,h5⟩:=h (i+1) c (by simpa using hi);exact ⟨us,h3,by rw[oD,show s.size+i*s.size=(i+1)*s.size by rw[Nat.add_mul,Nat.one_mul,Nat.add_comm]];exact h4,h5⟩
  refine ⟨u++xs,⟨u,xs,rfl,hr,h1⟩,fun j v hv=>?_⟩;rw[List.getElem?_append] at hv;split at hv
  .have:=hu j v hv;simpa using this
  .have:=h2 _ v hv;rw[hl,oD,Nat.add_sub_cancel' (by omega)] at this;exact this
structure iQ (ρ:List C) (bs bs':List aG) (hv hv':Nat->Value):Prop where
 known:∀r,known bs r->known bs' r/\hv' r=hv r
 row:∀r s e' p,Vc.known bs r->bV bs' r=some (s,e',p)->∃e,bV bs r=some (s,e,p)/\(e.eval ρ).toList.length=(e'.eval ρ).toList.length
 box:∀r cs' p,Vc.known bs r->dZ bs' r=some (cs',p)->∃cs,dZ bs r=some (cs,p)
theorem iQ.refl(ρ:List C)(bs:List aG)(hv:Nat->Value):iQ ρ bs bs hv hv:=⟨fun _ h=>⟨h,rfl⟩,fun _ _ e _ _ h=>⟨e,h,rfl⟩,fun _ cs _ _ h=>⟨cs,h⟩⟩
theorem bB.le{w w':World}{N N':Nat->Prop}{ρ:List C}{bs bs':List aG}{hv hv':Nat->Value}(hs:w.heap.size<=w'.heap.size)
  (hk:∀b,N b->b<w.heap.size->w'.heap[b]?=w.heap[b]?/\N' b) (le:iQ ρ bs bs' hv hv') {x:SX} {v:Value} (h:bB w N ρ bs hv x v):bB w' N' ρ bs' hv' x v:=by
 cases x with
 |none=>trivial
 |dat s e=>obtain ⟨vs,h1,h2,h3⟩:=h;exact ⟨vs,h1.mono hs hk,h2,h3⟩
 |res l=>obtain ⟨⟨vs,h1,h2⟩,h3⟩:=h;exact ⟨⟨vs,h1,h2.mono hs hk⟩,h3⟩
 |yA r n l=>
  obtain ⟨hkn,v1,vr,h1,h2,h3,h4⟩:=h;refine ⟨(le.known r hkn).1,v1,vr,h1,fun s e' p hr hp=>?_,h3.mono hs hk,h4⟩;obtain ⟨e,he,hl⟩:=le.row r s e' p hkn hr;rw[(le.known r hkn).2,<-hl];exact h2 s e p he hp
 |full r n=>
  obtain ⟨hkn,h⟩:=h;refine ⟨(le.known r hkn).1,fun s e' p hr hp=>?_⟩;obtain ⟨e,he,hl⟩:=le.row r s e' p hkn hr;rw[(le.known r hkn).2,<-hl];exact h s e p he hp
 |view r off n=>
  obtain ⟨hkn,h⟩:=h;refine ⟨(le.known r hkn).1,fun s e' p hr hp=>?_⟩;obtain ⟨e,he,hl⟩:=le.row r s e' p hkn hr;rw[(le.known r hkn).2,<-hl];exact h s e p he hp
 |ref r i fo s bZ=>
  obtain ⟨hkn,h,h'⟩:=h;refine ⟨(le.known r hkn).1,fun es e' p hr hp=>?_,fun cs' p hr hp=>?_⟩
  .obtain ⟨e,he,hl⟩:=le.row r es e' p hkn hr;rw[(le.known r hkn).2,<-hl];exact h es e p he hp
  .obtain ⟨cs,hc⟩:=le.box r cs' p hkn hr;rw[(le.known r hkn).2];exact h' cs p hc hp
 |ptr s e=>
  obtain ⟨b,off,us,h1,h2,h3,h4,h5,h6⟩:=h;exact ⟨b,off,us,h1,(hk b h2 h3).2,zx h3 hs,h4.mono (hk b h2 h3).1,h5.mono hs hk,h6⟩
 |fn f=>exact h
 |Av e=>exact h
 |uI t s n=>exact h
 |rF r=>obtain ⟨hkn,h⟩:=h;exact ⟨(le.known r hkn).1,by rw[(le.known r hkn).2];exact h⟩
 |uT r=>obtain ⟨hkn,h⟩:=h;exact ⟨(le.known r hkn).1,by rw[(le.known r hkn).2];exact h⟩
 |wE s p=>exact h
 |okF=>exact h
theorem dY.le{w w':World}{N N':Nat->Prop}{ρ:List C}{bs bs':List aG}{hv hv':Nat->Value}(hs:w.heap.size<=w'.heap.size)
  (hk:∀b,N b->b<w.heap.size->w'.heap[b]?=w.heap[b]?/\N' b) (le:iQ ρ bs bs' hv hv'):∀ {l:List SX} {vs:List Value},dY w N ρ bs hv l vs->dY w' N' ρ bs' hv' l vs
 | [],_,h=>h
 |_::_,_,⟨v,r,h1,h2,h3⟩=>⟨v,r,h1,h2.le hs hk le,dY.le hs hk le h3⟩
theorem ajS{w w':World}{B:Nat->Prop}{et:TypeId}{size:Nat}{v:Value}{n:Nat}{xs:List Value}(h:w.iA B et size v n xs)
  (hb:∀g,bH v=some g->w'.heap[g]?=w.heap[g]?):w'.iA B et size v n xs:=by
 obtain ⟨h1,h2⟩:=h;refine ⟨h1,?_⟩;rcases h2 with h2|⟨g,cap,cur,h3,h4,h5,h6⟩
 .exact .inl h2
 .refine .inr ⟨g,cap,cur,h3,h4,?_,h6⟩;rw[hb g (by rw[h3];rfl)];exact h5
theorem oq.le{w w':World}{B:Nat->Prop}{N N':Nat->Prop}{ρ:List C}{bs bs':List aG}{hv hv':Nat->Value}(hs:w.heap.size<=w'.heap.size)
  (hk:∀b,N b->b<w.heap.size->w'.heap[b]?=w.heap[b]?/\N' b) (le:iQ ρ bs bs' hv hv') {r:Nat} {lb:LB} (hr:hv' r=hv r)
  (hb:∀g,bH (hv r)=some g->w'.heap[g]?=w.heap[g]?) (h:oq w B N ρ bs hv r lb):oq w' B N' ρ bs' hv' r lb:=by
 cases lb with
 |none=>trivial
 |dead=>trivial
 |row s e=>
  obtain ⟨et,xs,h1,h2,h3⟩:=h;refine ⟨et,xs,?_,h2.mono hs hk,h3⟩;rw[hr];exact ajS h1 hb
 |box cs=>
  obtain ⟨g,bt,arr,h1,h2,h3,h4⟩:=h;refine ⟨g,bt,arr,by rw[hr];exact h1,h2,?_,h4.le hs hk le⟩;rw[hb g (by rw[h1];rfl)];exact h3
 |mp k s e=>
  obtain ⟨g,l,h1,h2,h3,h4⟩:=h;exact ⟨g,l,by rw[hr];exact h1,h2,h3.same (hb g (by rw[h1];rfl)),h4.imp fun _ _ h=>h.mono hs hk⟩
 |sit s p=>
  obtain ⟨g,q,h1,h2,h3,h4⟩:=h;exact ⟨g,q,by rw[hr];exact h1,h2,h3,by rw[hb g (by rw[h1];rfl)];exact h4⟩
theorem nY.trans{P:Program}{w0:Wb}{w w':World}(h:nY P w0 w)(hg:Below w.heap.size w w'):nY P w0 w':=
 ⟨hg.os.trans h.os,hg.tape.trans h.tape,hg.output.trans h.output,kL h.size hg.size,fun k hk hn=>(hg.block k (zx hk h.size)).trans (h.block k hk hn),h.kw,h.kb⟩
theorem nY.after{P:Program}{w0:Wb}{w w':World}(h:nY P w0 w)(h1:w'.os=w.os)(h2:w'.tape=w.tape)(h3:w'.output=w.output)(hs:w.heap.size<=w'.heap.size)
  (hk:∀k,k<w.heap.size->¬w0.own k->w'.heap[k]?=w.heap[k]?):nY P w0 w':=
 ⟨h1.trans h.os,h2.trans h.tape,h3.trans h.output,kL h.size hs,fun k hk' hn=>
  (hk k (zx hk' h.size) (fun ho=>ho.elim (fun hle=>Nat.lt_irrefl _ (zx hk' hle)) hn)).trans (h.block k hk' hn),h.kw,h.kb⟩
theorem nY.now{P:Program}{w0:Wb}{w:World}(h:nY P w0 w):KW P w:=h.kw.keep fun g hg=>h.block g (h.kw.lt hg) (h.kb g hg)
theorem nY.own{P:Program}{w0:Wb}{w:World}(h:nY P w0 w){g:Nat}(ho:w0.own g):¬uW P g:=fun hg=>ho.elim (fun hle=>Nat.lt_irrefl _ (zx (h.kw.lt hg) hle)) (h.kb g hg)
theorem aJ.step{P:Program}{N0:Nat->Prop}{w0:Wb}{ρ:List C}{S:SS}{hv hv':Nat->Value}{a:Act}{w w':World}{bs':List aG}(h:aJ P N0 w0 ρ S hv a w)
  (le:iQ ρ S.blks bs' hv hv') (hb:nY P w0 w') (hs:w.heap.size<=w'.heap.size)
  (hk:∀b,NN N0 w0.own ρ S.blks hv b->b<w.heap.size->w'.heap[b]?=w.heap[b]?/\NN N0 w0.own ρ bs' hv' b)
  (hblk:∀r k,bs'[r]?=some k->aS ρ k.bM->oq w' w0.own (NN N0 w0.own ρ bs' hv') ρ bs' hv' r k.lb)
  (hd:∀r r' k k' g,bs'[r]?=some k->bs'[r']?=some k'->r≠r'->eG k=true->eG k'=true->aS ρ k.bM->aS ρ k'.bM->bH (hv' r)=some g->bH (hv' r')≠some g):
  aJ P N0 w0 ρ {S with blks:=bs'} hv' a w':=
 ⟨h.defers,h.wB,hb,fun t ts ht hp=>(h.tmps t ts ht hp).le hs hk le,h.und,hblk,hd⟩
theorem aJ.grow{P:Program}{N0:Nat->Prop}{w0:Wb}{ρ:List C}{S:SS}{hv:Nat->Value}{a:Act}{w w':World}(h:aJ P N0 w0 ρ S hv a w)
  (hg:Below w.heap.size w w'):aJ P N0 w0 ρ S hv a w':=by
 have hlt:∀r k g,S.blks[r]?=some k->eG k=true->aS ρ k.bM->bH (hv r)=some g->g<w.heap.size:=by
  intro r k g hr hl hp hg;have hb:=h.blks r k hr hp;obtain ⟨lb,f,p⟩:=k;cases lb with
  |none=>cases hl
  |dead=>cases hl
  |row s e=>
   obtain ⟨et,xs,⟨_,h2⟩,_⟩:=hb;rcases h2 with ⟨h2,_⟩|⟨g',cap,cur,h3,_,h5,_⟩
   .rw[h2] at hg;cases hg
   .rw[h3] at hg;injection hg with hg;subst hg;exact (fu.1 h5).1
  |box cs=>
   obtain ⟨g',bt,arr,h1,_,h3,_⟩:=hb;rw[h1] at hg;injection hg with hg;subst hg;exact (fu.1 h3).1
  |mp k s e=>
   obtain ⟨g',l,h1,_,⟨es,cl,h3,_⟩,_⟩:=hb;rw[h1] at hg;injection hg with hg;subst hg;exact (fu.1 h3).1
  |sit s p=>
   obtain ⟨g',q,h1,_,_,h3⟩:=hb;rw[h1] at hg;injection hg with hg;subst hg;exact (fu.1 h3).1
 have hkeep:∀b,b<w.heap.size->w'.heap[b]?=w.heap[b]?:=fun b hb=>hg.block b hb;have hbel:nY P w0 w':=h.below.trans hg;have hk:∀b,NN N0 w0.own ρ S.blks hv b->b<w.heap.size->w'.heap[b]?=w.heap[b]?/\NN N0 w0.own ρ S.blks hv b:=fun b hn hb=>⟨hkeep b hb,hn⟩;refine ⟨h.defers,h.wB,hbel,fun t ts ht hp=>(h.tmps t ts ht hp).le hg.size hk (iQ.refl _ _ _),h.und,fun r k hr hp=>?_,h.dist⟩;by_cases hl:eG k=true
 .exact (h.blks r k hr hp).le hg.size hk (iQ.refl _ _ _) rfl fun g hgg=>hkeep g (hlt r k g hr hl hp hgg)
 .obtain ⟨lb,f,p⟩:=k;cases lb with
  |none=>trivial
  |dead=>trivial
  |row s e=>exact absurd rfl hl
  |box cs=>exact absurd rfl hl
  |mp _ _ _=>exact absurd rfl hl
  |sit _ _=>exact absurd rfl hl
theorem aJ.lt{P:Program}{N0:Nat->Prop}{w0:Wb}{ρ:List C}{S:SS}{hv:Nat->Value}{a:Act}{w:World}(h:aJ P N0 w0 ρ S hv a w){r:Nat}{k:aG}{g:Nat}
  (hr:S.blks[r]?=some k) (hl:eG k=true) (hp:aS ρ k.bM) (hg:bH (hv r)=some g):g<w.heap.size/\w0.own g:=by
 have hb:=h.blks r k hr hp;obtain ⟨lb,f,p⟩:=k;cases lb with
 |none=>cases hl
 |dead=>cases hl
 |row s e=>
  obtain ⟨et,xs,⟨_,h2⟩,_⟩:=hb;rcases h2 with ⟨h2,_⟩|⟨g',cap,cur,h3,h4,h5,_⟩
  .rw[h2] at hg;cases hg
  .rw[h3] at hg;injection hg with hg;subst hg;exact ⟨(fu.1 h5).1,h4⟩
 |box cs=>
  obtain ⟨g',bt,arr,h1,h2,h3,_⟩:=hb;rw[h1] at hg;injection hg with hg;subst hg;exact ⟨(fu.1 h3).1,h2⟩
 |mp k s e=>
  obtain ⟨g',l,h1,h2,⟨es,cl,h3,_⟩,_⟩:=hb;rw[h1] at hg;injection hg with hg;subst hg;exact ⟨(fu.1 h3).1,h2⟩
 |sit s p=>
  obtain ⟨g',q,h1,h2,_,h3⟩:=hb;rw[h1] at hg;injection hg with hg;subst hg;exact ⟨(fu.1 h3).1,h2⟩
theorem aJ.drew{P:Program}{N0:Nat->Prop}{w0:Wb}{ρ:List C}{S:SS}{hv:Nat->Value}{a:Act}{w:World}(h:aJ P N0 w0 ρ S hv a w)(n:Nat):
  aJ P N0 w0 ρ S hv a {w with drawn:=n}:=h.grow ⟨rfl,rfl,rfl,aI _,fun _ _=>rfl⟩
theorem anY{a:Act}{d:Option Tmp}{v:Value}{t:Nat}:(a.put d v).tmps.getD t undef=if d=some t/\t<a.tmps.size then v else a.tmps.getD t undef:=by
 cases d with
 |none=>simp[Act.put]
 |some d=>
  simp only[Act.put,bQ];by_cases h:d=t
  .subst h;by_cases hs:d<a.tmps.size
   .simp[hs]
   .simp[hs]
  .simp[h]
theorem aJ.put{P:Program}{N0:Nat->Prop}{w0:Wb}{ρ:List C}{S:SS}{hv:Nat->Value}{a:Act}{w:World}(h:aJ P N0 w0 ρ S hv a w)(d:Option Tmp)(p:aM)(x:SX)(v:Value)
  (hx:aS ρ p->bB w (NN N0 w0.own ρ S.blks hv) ρ S.blks hv x v) (hu:¬aS ρ p->v=undef):aJ P N0 w0 ρ {S with tmps:=cO S.tmps d ⟨p,x⟩} hv (a.put d v) w:=by
 have key:∀t ts,(cO S.tmps d ⟨p,x⟩)[t]?=some ts->(ts=⟨p,x⟩/\(a.put d v).tmps.getD t undef=v)\/(S.tmps[t]?=some ts/\(a.put d v).tmps.getD t undef=a.tmps.getD t undef):=by
  intro t ts ht;rw[anY];cases d with
  |none=>exact .inr ⟨ht,by simp⟩
  |some d=>
   simp only[cO] at ht;rw[CZ] at ht;by_cases hd:d=t
   .subst hd;simp only[if_true] at ht;split at ht
    .rename_i hlt;injection ht with ht;rw[if_pos ⟨rfl,by rw[h.wB];exact hlt⟩];exact .inl ⟨ht.symm,rfl⟩
    .cases ht
   .rw[if_neg hd] at ht;rw[if_neg (by simp[hd])];exact .inr ⟨ht,rfl⟩
 refine ⟨?_,?_,h.below,?_,?_,h.blks,h.dist⟩
 .cases d<;>exact h.defers
 .cases d<;>simp[Act.put,cO,h.wB]
 .intro t ts ht hp;rcases key t ts ht with ⟨rfl,e⟩|⟨h1,e⟩
  .rw[e];exact hx hp
  .rw[e];exact h.tmps t ts h1 hp
 .intro t ts ht hp;rcases key t ts ht with ⟨rfl,e⟩|⟨h1,e⟩
  .rw[e];exact hu hp
  .rw[e];exact h.und t ts h1 hp
theorem aJ.nv{P:Program}{N0:Nat->Prop}{w0:Wb}{ρ:List C}{S:SS}{hv:Nat->Value}{a:Act}{w:World}(h:aJ P N0 w0 ρ S hv a w)(n:Nat):aJ P N0 w0 ρ {S with nv:=n} hv a w:=
 ⟨h.defers,h.wB,h.below,h.tmps,h.und,h.blks,h.dist⟩
theorem EZ{bs:List aG}{r r':Nat}{k:aG}(h:(bs.modify r fun b=> {b with fI:=true})[r']?=some k):
  ∃k0,bs[r']?=some k0/\k.lb=k0.lb/\k.bM=k0.bM/\(k.fI=false->k0.fI=false):=by
 rw[List.getElem?_modify] at h;cases hb:bs[r']? with
 |none=>simp[hb] at h
 |some k0=>
  simp[hb] at h;subst h;refine ⟨k0,rfl,?_⟩;split<;>simp
theorem apj{bs:List aG}(r:Nat){r':Nat}{k:aG}(h:bs[r']?=some k):
  ∃k',(bs.modify r fun b=> {b with fI:=true})[r']?=some k'/\k'.lb=k.lb/\k'.bM=k.bM:=by
 rw[List.getElem?_modify,h];by_cases hr:r=r'<;>simp[hr]
theorem amh(bs:List aG)(r r':Nat):bV (bs.modify r fun b=> {b with fI:=true}) r'=bV bs r':=by
 unfold bV;rw[List.getElem?_modify];cases hb:bs[r']? with
 |none=>simp
 |some k0=>obtain ⟨lb,f,p⟩:=k0;by_cases hr:r=r'<;>cases lb<;>simp[hr]
theorem am1(bs:List aG)(r r':Nat):dZ (bs.modify r fun b=> {b with fI:=true}) r'=dZ bs r':=by
 unfold dZ;rw[List.getElem?_modify];cases hb:bs[r']? with
 |none=>simp
 |some k0=>obtain ⟨lb,f,p⟩:=k0;by_cases hr:r=r'<;>cases lb<;>simp[hr]
theorem Iq{k k0:aG}(h:k.lb=k0.lb):eG k=eG k0:=by unfold eG;rw[h]
theorem OG(ρ:List C)(bs:List aG)(r:Nat)(hv:Nat->Value):iQ ρ bs (bs.modify r fun b=> {b with fI:=true}) hv hv:=by
 refine ⟨fun r' ⟨k,h1,h2⟩=>⟨?_,rfl⟩,fun r' s e' p _ h=>⟨e',by rw[amh] at h;exact h,rfl⟩,fun r' cs p _ h=>⟨cs,by rw[am1] at h;exact h⟩⟩;obtain ⟨k',h3,h4,_⟩:=apj r h1;exact ⟨k',h3,by rw[h4];exact h2⟩
theorem acL{N0:Nat->Prop}{B:Nat->Prop}{ρ:List C}{bs:List aG}{r:Nat}{hv:Nat->Value}{b:Nat}(h:NN N0 B ρ bs hv b):
  NN N0 B ρ (bs.modify r fun b=> {b with fI:=true}) hv b:=by
 refine ⟨h.1,fun r' k hk hl hf hp=>?_⟩;obtain ⟨k0,h1,h2,h3,h4⟩:=EZ hk;exact h.2 r' k0 h1 (by rw[<-Iq h2];exact hl) (h4 hf) (by rw[<-h3];exact hp)
theorem aJ.aV{P:Program}{N0:Nat->Prop}{w0:Wb}{ρ:List C}{S:SS}{hv:Nat->Value}{a:Act}{w:World}(h:aJ P N0 w0 ρ S hv a w)(r:Nat):
  aJ P N0 w0 ρ {S with blks:=S.blks.modify r fun b=> {b with fI:=true}} hv a w:=by
 have hk:∀b,NN N0 w0.own ρ S.blks hv b->b<w.heap.size->w.heap[b]?=w.heap[b]?/\NN N0 w0.own ρ (S.blks.modify r fun b=> {b with fI:=true}) hv b:=fun b hb _=>⟨rfl,acL hb⟩;refine h.step (OG ρ _ r hv) h.below (aI _) hk ?_ ?_
 .intro r' k hkk hp;obtain ⟨k0,h1,h2,h3,_⟩:=EZ hkk;rw[h2];exact (h.blks r' k0 h1 (by rw[<-h3];exact hp)).le (aI _) hk (OG ρ _ r hv) rfl fun _ _=>rfl
 .intro r1 r2 k1 k2 g h1 h2 hne hl1 hl2 hp1 hp2;obtain ⟨k3,h3,e3,e3',_⟩:=EZ h1;obtain ⟨k4,h4,e4,e4',_⟩:=EZ h2;exact h.dist r1 r2 k3 k4 g h3 h4 hne (by rw[<-Iq e3];exact hl1) (by rw[<-Iq e4];exact hl2) (by rw[<-e3'];exact hp1) (by rw[<-e4'];exact hp2)
theorem aJ.AB{P:Program}{N0:Nat->Prop}{w0:Wb}{ρ:List C}{hv:Nat->Value}{a:Act}{w:World}:∀(f:List Nat) {S:SS},aJ P N0 w0 ρ S hv a w->
  aJ P N0 w0 ρ {S with blks:=aW (f.map .aV) S.blks} hv a w
 | [],_,h=>h
 |r::f,_,h=>aJ.AB f (h.aV r)
theorem NW(ρ:List C)(hv:Nat->Value):∀(f:List Nat) (bs:List aG),iQ ρ bs (aW (f.map .aV) bs) hv hv
 | [],bs=>iQ.refl _ _ _
 |r::f,bs=>by
  have h1:=OG ρ bs r hv;have h2:=NW ρ hv f (bs.modify r fun b=> {b with fI:=true});refine ⟨fun q hq=>?_,fun q s e' p hq h=>?_,fun q cs' p hq h=>?_⟩
  .exact ⟨(h2.known q (h1.known q hq).1).1,rfl⟩
  .obtain ⟨e,he,hl⟩:=h2.row q s e' p (h1.known q hq).1 h;obtain ⟨e0,he0,hl0⟩:=h1.row q s e p hq he;exact ⟨e0,he0,hl0.trans hl⟩
  .obtain ⟨cs,hc⟩:=h2.box q cs' p (h1.known q hq).1 h;exact h1.box q cs p hq hc
theorem NY{N0:Nat->Prop}{B:Nat->Prop}{ρ:List C}{hv:Nat->Value}{b:Nat}:∀(f:List Nat) {bs:List aG},NN N0 B ρ bs hv b->NN N0 B ρ (aW (f.map .aV) bs) hv b
 | [],_,h=>h
 |_::f,_,h=>NY f (acL h)
theorem aao{bs:List aG}{r:Nat}{k:aG}:∀(f:List Nat),r∈f->(aW (f.map .aV) bs)[r]?=some k->k.fI=true:=by
 intro f;have keep:∀(f:List Nat) (bs:List aG) (k:aG),(∀k0,bs[r]?=some k0->k0.fI=true)->(aW (f.map .aV) bs)[r]?=some k->k.fI=true:=by
  intro f;induction f with
  |nil=>intro bs k h1 h2;exact h1 k h2
  |cons q f ih=>
   intro bs k h1 h2;refine ih _ k (fun k0 hk0=>?_) h2;change (bs.modify q fun b=> {b with fI:=true})[r]?=some k0 at hk0
   rw[List.getElem?_modify] at hk0;cases hb:bs[r]? with
   |none=>simp[hb] at hk0
   |some k1=>
    simp[hb] at hk0;subst hk0;split
    .rfl
    .exact h1 k1 hb
 induction f generalizing bs with
 |nil=>intro h;cases h
 |cons q f ih=>
  intro hm hr;rcases iH.1 hm with h|h
  .subst h;refine keep f _ k (fun k0 hk0=>?_) hr;change (bs.modify r fun b=> {b with fI:=true})[r]?=some k0 at hk0
   rw[List.getElem?_modify] at hk0;cases hb:bs[r]? with
   |none=>simp[hb] at hk0
   |some k1=>
    simp[hb] at hk0;subst hk0;rfl
  .exact ih h hr
def upd(hv:Nat->Value)(d:Nat)(v:Value):Nat->Value:=fun r=>if r=d then v else hv r
theorem DY{bs:List aG}{d:Nat}(h:gW (aY bs) d=true):∃k,bs[d]?=some k/\k.lb= .none:=by
 unfold gW aY at h;cases hb:bs[d]? with
 |none=>simp[hb] at h
 |some k=>obtain ⟨lb,f,p⟩:=k;simp[hb] at h;cases lb<;>simp_all
theorem acv(ρ:List C){bs:List aG}{d:Nat}(hd:∃k,bs[d]?=some k/\k.lb= .none)(b:aG)(hv:Nat->Value)(v:Value):iQ ρ bs (bs.set d b) hv (upd hv d v):=by
 obtain ⟨k0,hk0,hn⟩:=hd;have hne:∀r,known bs r->r≠d:=by
  rintro r ⟨k,h1,h2⟩ rfl;rw[hk0] at h1;injection h1 with h1;subst h1;exact h2 hn
 refine ⟨fun r hr=>⟨?_,by simp[upd,hne r hr]⟩,fun r s e p hr h=>⟨e,?_,rfl⟩,fun r cs p hr h=>⟨cs,?_⟩⟩
 .obtain ⟨k,h1,h2⟩:=hr;exact ⟨k,by rw[dN (hne r ⟨k,h1,h2⟩).symm];exact h1,h2⟩
 .unfold bV at h |-;rwa[dN (hne r hr).symm] at h
 .unfold dZ at h |-;rwa[dN (hne r hr).symm] at h
theorem aJ.new{P:Program}{N0:Nat->Prop}{w0:Wb}{ρ:List C}{S:SS}{hv:Nat->Value}{a:Act}{w w':World}(h:aJ P N0 w0 ρ S hv a w){d:Nat}
  (hd:∃k,S.blks[d]?=some k/\k.lb= .none) (lb:LB) (pc:aM) (v:Value) (hw:Below w.heap.size w w') (hbn:∀g,bH v=some g->w.heap.size<=g)
  (hok:aS ρ pc->oq w' w0.own (NN N0 w0.own ρ (S.blks.set d ⟨lb,false,pc⟩) (upd hv d v)) ρ (S.blks.set d ⟨lb,false,pc⟩) (upd hv d v) d lb):
  aJ P N0 w0 ρ {S with blks:=S.blks.set d ⟨lb,false,pc⟩} (upd hv d v) a w'/\
   (∀b,NN N0 w0.own ρ S.blks hv b->b<w.heap.size->w'.heap[b]?=w.heap[b]?/\NN N0 w0.own ρ (S.blks.set d ⟨lb,false,pc⟩) (upd hv d v) b):=by
 have hle:=acv ρ hd ⟨lb,false,pc⟩ hv v;have hdl:d<S.blks.length:=by obtain ⟨k,hk,_⟩:=hd;exact (dF.1 hk).1
 have hk:∀b,NN N0 w0.own ρ S.blks hv b->b<w.heap.size->w'.heap[b]?=w.heap[b]?/\NN N0 w0.own ρ (S.blks.set d ⟨lb,false,pc⟩) (upd hv d v) b:=by
  intro b hb hlt;refine ⟨hw.block b hlt,hb.1,fun r k hr hl hf hp=>?_⟩;by_cases hrd:r=d
  .subst hrd;simp only[upd,if_true];intro hc;have:=hbn b hc;omega
  .rw[dN (fun e=>hrd e.symm)] at hr;simp only[upd,if_neg hrd];exact hb.2 r k hr hl hf hp
 refine ⟨h.step hle (h.below.trans hw) hw.size hk ?_ ?_,hk⟩
 .intro r k hr hp;by_cases hrd:r=d
  .subst hrd;rw[zw hdl] at hr;injection hr with hr;subst hr;exact hok hp
  .rw[dN (fun e=>hrd e.symm)] at hr;by_cases hl:eG k=true
   .exact (h.blks r k hr hp).le hw.size hk hle (by simp[upd,hrd]) fun g hg=>hw.block g (h.lt hr hl hp hg).1
   .obtain ⟨lb',f,p⟩:=k;cases lb' with
    |none=>trivial
    |dead=>trivial
    |row s e=>exact absurd rfl hl
    |box cs=>exact absurd rfl hl
    |mp _ _ _=>exact absurd rfl hl
    |sit _ _=>exact absurd rfl hl
 .intro r r' k k' g hr hr' hne hl hl' hp hp' hg hg';by_cases hrd:r=d
  .subst hrd;rw[dN hne] at hr';simp only[upd,if_true,if_neg hne.symm] at hg hg';have h1:=hbn g hg;have h2:=(h.lt hr' hl' hp' hg').1;omega
  .rw[dN (fun e=>hrd e.symm)] at hr;simp only[upd,if_neg hrd] at hg;by_cases J6:r'=d
   .subst J6;simp only[upd,if_true] at hg';have h1:=hbn g hg';have h2:=(h.lt hr hl hp hg).1;omega
   .rw[dN (fun e=>J6 e.symm)] at hr';simp only[upd,if_neg J6] at hg';exact h.dist r r' k k' g hr hr' hne hl hl' hp hp' hg hg'
section
variable{w:World}{N:Nat->Prop}{ρ:List C}{bs:List aG}{hv:Nat->Value}{e:E}{v:Value}
theorem gu{k:IntKind}:bB w N ρ bs hv (.dat (.int k) e) v↔v= .int k (e.eval ρ).toInt:=by
 simp[bB,Rd,Sh.mk,Sh.isAgg,Exact]
theorem jr:bB w N ρ bs hv (.dat .bool e) v↔v= .bool (e.eval ρ).toBool:=by
 simp[bB,Rd,Sh.mk,Sh.isAgg,Exact]
theorem oJ:bB w N ρ bs hv (.dat .str e) v↔v= .string ⟨(e.eval ρ).toStr.toArray⟩:=by
 simp[bB,Rd,Sh.mk,Sh.isAgg,Exact]
theorem Ce{s:Sh}(h:bB w N ρ bs hv (.dat (.sl s) e) v):Rd w N (.sl s) [v] (e.eval ρ):=by
 obtain ⟨vs,h1,h2,_⟩:=h;obtain ⟨a,cap,h3,_⟩:=id h1;rw[h3] at h2;rw[h2];simp only[Sh.mk,Sh.isAgg];rw[h3] at h1;exact h1
theorem BQ{s:Sh}(h:bB w N ρ bs hv (.dat s e) v):bq w N s v (e.eval ρ):=let ⟨vs,h1,h2,_⟩:=h;⟨vs,h1,h2⟩
theorem uj{s:Sh}(h:bq w N s v (e.eval ρ))(hx:∀vs,Exact s e vs):bB w N ρ bs hv (.dat s e) v:=let ⟨vs,h1,h2⟩:=h;⟨vs,h1,h2,hx vs⟩
end
theorem nN{s:Sh}{e:E}(h:e≠ .aK)(hc:∀x y,e≠ .cons x y)(vs:List Value):Exact s e vs:=by
 cases s<;>cases e<;>first|trivial|exact absurd rfl h|exact absurd rfl (hc _ _)
theorem KY{w:World}{N:Nat->Prop}{ρ:List C}:∀ {s:Sh} {vs:List Value} {e:E} {r:List Value},ni s vs=some (e,r)->
  ∃us,vs=us++r/\Rd w N s us (e.eval ρ)/\Exact s e us:=by
 intro s;induction s with
 |int k=>
  intro vs e r h;unfold ni at h;split at h<;>simp_all;obtain ⟨rfl,rfl,rfl⟩:=h;exact ⟨[.int _ _],rfl,by simp[Rd,E.eval],by simp[Exact]⟩
 |bool=>
  intro vs e r h;unfold ni at h;split at h<;>simp_all;obtain ⟨rfl,rfl⟩:=h;exact ⟨[.bool _],rfl,by simp[Rd,E.eval],by simp[Exact]⟩
 |str=>
  intro vs e r h;unfold ni at h;split at h<;>simp_all;obtain ⟨rfl,rfl⟩:=h;exact ⟨[.string _],rfl,by simp[Rd,E.eval],by simp[Exact]⟩
 |sl s ih=>
  intro vs e r h;unfold ni at h;split at h<;>simp_all;obtain ⟨rfl,rfl⟩:=h;exact ⟨[.slice none 0 0],rfl,⟨none,0,by simp[E.eval],by simp[E.eval],by simp,fun h=>by simp[E.eval] at h⟩,by simp[Exact]⟩
 |unit=>
  intro vs e r h;simp[ni] at h;obtain ⟨rfl,rfl⟩:=h;exact ⟨[],rfl,by simp[Rd],by simp[Exact]⟩
 |pair a b iha ihb=>
  intro vs e r h;simp only[ni] at h;split at h
  .rename_i hb;split at h
   .rename_i x r1 h1;split at h
    .rename_i y r2 h2;simp at h;obtain ⟨rfl,rfl⟩:=h;obtain ⟨u1,e1,g1,x1⟩:=iha h1;obtain ⟨u2,e2,g2,x2⟩:=ihb h2;refine ⟨u1++u2,by rw[e1,e2,dI],⟨hb,u1,u2,rfl,?_,?_⟩,⟨u1,u2,rfl,g1.length,x1,x2⟩⟩
     .simpa [E.eval,C.hd] using g1
     .exact g2.tX hb (by simp[E.eval,C.tl])
    .simp at h
   .simp at h
  .simp at h
 |bP _ _ _=>intro vs e r h;simp[ni] at h
 |iX=>intro vs e r h;simp[ni] at h
 |eU _=>intro vs e r h;simp[ni] at h
 |mp _ _ _=>intro vs e r h;simp[ni] at h
theorem ajo{w:World}{N:Nat->Prop}{ρ:List C}{bs:List aG}{hv:Nat->Value}{s:Option Sh}{v:Value}{x:SX}(h:N9 s v=some x):bB w N ρ bs hv x v:=by
 unfold N9 at h;split at h
 .injection h with h;subst h;rw[gu];rfl
 .injection h with h;subst h;rw[jr];rfl
 .injection h with h;subst h;rw[oJ];rfl
 .injection h with h;subst h;exact ⟨[.nilIface],rfl,rfl,trivial⟩
 .injection h with h;subst h;trivial
 .injection h with h;subst h;exact ⟨[.slice none 0 0],⟨none,0,by simp[E.eval],by simp[E.eval],by simp,fun h=>by simp[E.eval] at h⟩,by simp[Sh.mk,Sh.isAgg],by simp[Exact]⟩
 .rename_i cs s;split at h
  .rename_i ha;split at h
   .rename_i e hu;injection h with h;subst h;obtain ⟨us,h1,h2,h3⟩:=KY (w:=w) (N:=N) (ρ:=ρ) hu;simp at h1;exact ⟨us,h2,by simp[Sh.mk,ha,<-h1],h3⟩
   .simp at h
  .simp at h
 .simp at h
theorem bC{P:Program}{N0:Nat->Prop}{w0:Wb}{ρ:List C}{S:SS}{hv:Nat->Value}{a:Act}{w:World}(h:aJ P N0 w0 ρ S hv a w){pc:aM}(hp:aS ρ pc)
  {x:Operand} {t:TypeId} {sx:SX} (he:S.ev P pc x t=some sx):bB w (NN N0 w0.own ρ S.blks hv) ρ S.blks hv sx (a.eval x):=by
 unfold SS.ev at he;cases x with
 |tmp i=>
  simp only at he;cases ht:S.tmps[i]? with
  |none=>simp[ht] at he
  |some ts=>
   simp only[ht] at he;split at he
   .rename_i hsub;injection he with he;subst he;exact h.tmps i ts ht (rO hsub hp)
   .simp at he
 |const v=>exact ajo he
 |global g=>simp at he
 |func f=>
  injection he with he;subst he;rfl
def Ob.holds(P:Program)(ρ:List C)(nv:Nat):Ob->Prop
 | .aj p e=>aS ρ p->(e.eval ρ).toBool=true
 | .call p f args aF=>aS ρ p->PC P f (dS ρ args) (aF.zip ((ρ.drop nv).take aF.length))/\(aF=[]\/nv+aF.length<=ρ.length)
def dB(P:Program)(ρ:List C):Nat->List Ob->Prop
 |_,[]=>True
 |nv,o::l=>o.holds P ρ nv/\dB P ρ (nv+o.vars) l
theorem rQ{P:Program}{ρ:List C}:∀ {l m:List Ob} {nv:Nat},dB P ρ nv (l++m)↔dB P ρ nv l/\dB P ρ (nv+(l.map Ob.vars).sum) m
 | [],m,nv=>by simp[dB]
 |o::l,m,nv=>by simp[dB,rQ (l:=l),oD,and_assoc]
theorem xB{P:Program}{ρ:List C}{pc:aM}(hp:aS ρ pc){e:E}:∀ {nv:Nat},dB P ρ nv (aj pc e)->(e.eval ρ).toBool=true:=by
 intro nv h;unfold aj at h;split at h
 .split at h
  .simp_all[E.eval,jk]
  .exact h.1 hp
 .split at h
  .simp_all[E.eval,jk]
  .exact h.1 hp
 .split at h
  .simp_all[E.eval,jk]
  .exact h.1 hp
 .exact h.1 hp
theorem am6(pc:aM)(e:E):((aj pc e).map Ob.vars).sum=0:=by
 unfold aj;split<;>(try split)<;>simp[Ob.vars]
theorem Ef{P:Program}{ρ:List C}{pc:aM}(hp:aS ρ pc){e:E}{l:List Ob}{nv:Nat}(h:dB P ρ nv (aj pc e++l)):(e.eval ρ).toBool=true/\dB P ρ nv l:=by
 rw[rQ,am6] at h;exact ⟨xB hp h.1,h.2⟩
section
variable{P:Program}{w:World}{N:Nat->Prop}{ρ:List C}{bs:List aG}{hv:Nat->Value}
theorem Y2(op:BinOp)(hop:op= .shl\/op= .shr)(t:TypeId)(k k':IntKind)(x y:Int)(hy:0<=y):(binOp op t (.int k x) (.int k' y)).run P w= .ok (.int k (arith op k x y)) w:=by
 have h:¬y<0:=by omega
 rcases hop with rfl|rfl<;>simp[binOp,Op.shift,h,arith]
theorem DV(op:BinOp)(hop:op= .add\/op= .sub\/op= .mul\/op= .and\/op= .or\/op= .xor\/op= .andNot)(t:TypeId)(k:IntKind)(x y:Int):
  (binOp op t (.int k x) (.int k y)).run P w= .ok (.int k (arith op k x y)) w:=by
 rcases hop with rfl|rfl|rfl|rfl|rfl|rfl|rfl<;>simp[binOp,Op.intArith,Op.intBits,arith]
theorem aaZ(op:BinOp)(hop:op= .quo\/op= .rem)(t:TypeId)(k:IntKind)(x y:Int)(hy:y≠0):
  (binOp op t (.int k x) (.int k y)).run P w= .ok (.int k (arith op k x y)) w:=by
 rcases hop with rfl|rfl<;>simp[binOp,Op.intDiv,arith,hy]
theorem aoJ(op:BinOp)(hop:op= .eql\/op= .neq\/op= .lss\/op= .leq\/op= .gtr\/op= .geq)(t:TypeId)(k:IntKind)(x y:Int):
  (binOp op t (.int k x) (.int k y)).run P w= .ok (.bool (jk op x y)) w:=by
 rcases hop with rfl|rfl|rfl|rfl|rfl|rfl<;>simp[binOp,Op.intCmp,jk]
theorem ank(op:BinOp)(hop:op= .eql\/op= .neq\/op= .lss\/op= .leq\/op= .gtr\/op= .geq)(t:TypeId)(x y:List UInt8):
  (binOp op t (.string ⟨x.toArray⟩) (.string ⟨y.toArray⟩)).run P w= .ok (.bool (sQ op x y)) w:=by
 rcases hop with rfl|rfl|rfl|rfl|rfl|rfl<;>simp[binOp,Op.stringOp,sQ]
def Value.plain:Value->Bool
 | .int .. | .bool _| .string _=>true
 |_=>false
theorem KJ(op:BinOp)(t:TypeId)(x y:Operand)(a b:Value)(h:Value.plain a=true):(eqGuard op t x y a b).run P w= .ok () w:=by
 cases a<;>simp[Value.plain] at h<;>cases op<;>simp[eqGuard]
theorem run_equalIn_bool(d:Nat)(t:TypeId)(ht:P.underlying t=some .bool)(x y:Bool):(Op.equalIn (d+1) t (.bool x) (.bool y)).run P w= .ok (x==y) w:=by
 simp[Op.equalIn,run_underlying ht]
theorem aoM(t:TypeId)(ht:P.underlying t=some .bool)(x y:Bool):(binOp .eql t (.bool x) (.bool y)).run P w= .ok (.bool (x==y)) w:=by
 simp only[binOp];simp[Op.equal,Op.maxDepth,run_equalIn_bool 9999 t ht]
theorem aoL(t:TypeId)(ht:P.underlying t=some .bool)(x y:Bool):(binOp .neq t (.bool x) (.bool y)).run P w= .ok (.bool (!(x==y))) w:=by
 simp only[binOp];simp[Op.equal,Op.maxDepth,run_equalIn_bool 9999 t ht]
theorem bytes_append(x y:List UInt8):(⟨x.toArray⟩:ByteArray)++⟨y.toArray⟩=⟨(x++y).toArray⟩:=by
 apply ByteArray.ext;simp
theorem aoK(t:TypeId)(x y:List UInt8)(h:(x.length:Int)+(y.length:Int)<=9223372036854775807):(binOp .add t (.string ⟨x.toArray⟩) (.string ⟨y.toArray⟩)).run P w= .ok (.string ⟨(x++y).toArray⟩) w:=by
 have h1:¬(9223372036854775807<(x.length:Int)+(y.length:Int)):=by omega
 simp[binOp,Op.stringOp,ByteArray.size,IntKind.max,IntKind.signed,IntKind.bits,h1,bytes_append]
theorem al0(k:IntKind)(n:Int)(h1:k.min<=n)(h2:n<=k.max):k.wrap n=n:=by
 cases k<;>simp[IntKind.min,IntKind.max,IntKind.signed,IntKind.bits] at h1 h2<;>simp[IntKind.wrap,IntKind.signed,IntKind.bits]<;>omega
theorem afY(d:Nat)(t:TypeId){et:TypeId}(ht:P.underlying t=some (.slice et))(ad:Option Addr)(n cap:Nat):(Op.equalIn (d+1) t (.slice ad n cap) (.slice none 0 0)).run P w= .ok ad.isNone w:=by
 cases ad<;>simp[Op.equalIn,run_underlying ht]
theorem anl(t:TypeId){et:TypeId}(ht:P.underlying t=some (.slice et))(ox oy:Operand)(ad:Option Addr)(n cap:Nat):
  (do eqGuard .eql t ox oy (.slice ad n cap) (.slice none 0 0);binOp .eql t (.slice ad n cap) (.slice none 0 0):Sem Value).run P w= .ok (.bool ad.isNone) w:=by
 have hg:(eqGuard .eql t ox oy (.slice ad n cap) (.slice none 0 0)).run P w= .ok () w:=by simp[eqGuard]
 simp only[Sem.run_bind,hg,Result.andThen_ok];simp only[binOp];simp[Op.equal,Op.maxDepth,afY 9999 t ht]
def kJ(P:Program)(w:World)(N:Nat->Prop)(ρ:List C)(bs:List aG)(hv:Nat->Value)(m:Sem Value)(x:SX):Prop:=
 ∃v,m.run P w= .ok v w/\bB w N ρ bs hv x v
theorem alU{raw : Bool}{pc : aM}{op : BinOp}{xt : TypeId}{s s' : Sh}{ex ey : E}{out : Out}{vx vy : Value}{ox oy : Operand}{nv : Nat}
    (h : vX P raw pc op xt s ex s' ey = some out) (hagg : s.isAgg = false) (hp : aS ρ pc) (ho : dB P ρ nv out.obs)
    (hx : bB w N ρ bs hv (.dat s ex) vx) (hy : bB w N ρ bs hv (.dat s' ey) vy) :
    out.cmds = [] /\ out.nv = 0 /\ kJ P w N ρ bs hv (do eqGuard op xt ox oy vx vy; binOp op xt vx vy) out.x := by
  unfold vX at h;split at h
  . rename_i k k'
    rw [gu] at hx hy;subst hx hy;have hg : ∀ op, (eqGuard op xt ox oy (.int k (ex.eval ρ).toInt) (.int k' (ey.eval ρ).toInt)).run P w = .ok () w := fun op => KJ op xt ox oy _ _ rfl;split at h
    . injection h with h
      subst h;have h0 := xB hp ho;simp [E.eval, jk] at h0;exact ⟨rfl, rfl, _, by simp [hg, Y2 .shl (.inl rfl) xt k k' _ _ h0]; rfl, by rw [gu]; rfl⟩
    . injection h with h
      subst h;have h0 := xB hp ho;simp [E.eval, jk] at h0;exact ⟨rfl, rfl, _, by simp [hg, Y2 .shr (.inr rfl) xt k k' _ _ h0]; rfl, by rw [gu]; rfl⟩
    . split at h
      . simp at h
      . rename_i hk
        simp only [ne_eq, Decidable.not_not] at hk;subst hk;have MS : ∀ op', op' = op -> (op = .add \/ op = .sub \/ op = .mul) -> (if (raw && k == .i64) = true then some { x := SX.dat (.int k) (.raw op ex ey), obs := [Ob.aj pc (.fits k (.raw op ex ey))] : Out }
            else some { x := .dat (.int k) (.bin op k ex ey) }) = some out ->
            out.cmds = [] /\ out.nv = 0 /\ kJ P w N ρ bs hv (do eqGuard op xt ox oy (.int k (ex.eval ρ).toInt) (.int k (ey.eval ρ).toInt); binOp op xt (.int k (ex.eval ρ).toInt) (.int k (ey.eval ρ).toInt)) out.x := by
          intro op' _ hop h;have hr := DV (P := P) (w := w) op (by rcases hop with h | h | h <;> simp [h]) xt k (ex.eval ρ).toInt (ey.eval ρ).toInt;split at h
          . injection h with h
            subst h;have h0 := ho.1 hp;refine ⟨rfl, rfl, _, by simp [hg, hr]; rfl, ?_⟩;rw [gu];rcases hop with rfl | rfl | rfl <;> simp only [E.eval, arith, nP, C.toInt_int, C.GN] at h0 |- <;> rw [al0 k _ (of_decide_eq_true h0).1 (of_decide_eq_true h0).2]
          . injection h with h
            subst h;exact ⟨rfl, rfl, _, by simp [hg, hr]; rfl, by rw [gu]; rfl⟩
        split at h
        . exact MS _ rfl (by simp) h
        . exact MS _ rfl (by simp) h
        . exact MS _ rfl (by simp) h
        . injection h with h
          subst h;have h0 := xB hp ho;simp [E.eval, jk] at h0;exact ⟨rfl, rfl, _, by simp [hg, aaZ .quo (.inl rfl) xt k _ _ h0]; rfl, by rw [gu]; rfl⟩
        . injection h with h
          subst h;have h0 := xB hp ho;simp [E.eval, jk] at h0;exact ⟨rfl, rfl, _, by simp [hg, aaZ .rem (.inr rfl) xt k _ _ h0]; rfl, by rw [gu]; rfl⟩
        . injection h with h; subst h; exact ⟨rfl, rfl, _, by simp [hg, DV .and (by simp) xt k]; rfl, by rw [gu]; rfl⟩
        . injection h with h; subst h; exact ⟨rfl, rfl, _, by simp [hg, DV .or (by simp) xt k]; rfl, by rw [gu]; rfl⟩
        . injection h with h; subst h; exact ⟨rfl, rfl, _, by simp [hg, DV .xor (by simp) xt k]; rfl, by rw [gu]; rfl⟩
        . injection h with h; subst h; exact ⟨rfl, rfl, _, by simp [hg, DV .andNot (by simp) xt k]; rfl, by rw [gu]; rfl⟩
        . injection h with h
          subst h;have hop : op = .eql \/ op = .neq \/ op = .lss \/ op = .leq \/ op = .gtr \/ op = .geq := by cases op <;> simp_all
          exact ⟨rfl, rfl, _, by simp [hg, aoJ op hop xt k]; rfl, by rw [jr]; rfl⟩
  . rw [oJ] at hx hy
    subst hx hy;have hg : ∀ op, (eqGuard op xt ox oy (.string ⟨(ex.eval ρ).toStr.toArray⟩) (.string ⟨(ey.eval ρ).toStr.toArray⟩)).run P w = .ok () w := fun op => KJ op xt ox oy _ _ rfl;split at h
    . injection h with h
      subst h;have h0 := ho.1 hp;simp [E.eval, nP, IntKind.max, IntKind.signed, IntKind.bits] at h0;refine ⟨rfl, rfl, .string ⟨((ex.eval ρ).toStr ++ (ey.eval ρ).toStr).toArray⟩, ?_, by rw [oJ]; rfl⟩;simp [hg, aoK xt _ _ h0.2]
    all_goals
      first
      | (injection h with h
         subst h;exact ⟨rfl, rfl, _, by simp [hg, ank]; rfl, by rw [jr]; rfl⟩)
      | simp at h
  . rw [jr] at hx hy
    subst hx hy;have hg : ∀ op, (eqGuard op xt ox oy (.bool (ex.eval ρ).toBool) (.bool (ey.eval ρ).toBool)).run P w = .ok () w := fun op => KJ op xt ox oy _ _ rfl;split at h
    . rename_i ht
      injection h with h;subst h;exact ⟨rfl, rfl, _, by simp [hg, aoM xt ht]; rfl, by rw [jr]; rfl⟩
    . rename_i ht
      injection h with h;subst h;exact ⟨rfl, rfl, _, by simp [hg, aoL xt ht]; rfl, by rw [jr]; rfl⟩
    . simp at h
  . split at h
    . rename_i hu
      injection h with h;subst h;obtain ⟨vs, h1, h2, _⟩ := hx;obtain ⟨vs', h3, h4, h5⟩ := hy;simp only [Exact] at h5;subst h5;obtain ⟨ad, cap, h6, h7, h8, h9⟩ := h1;subst h6 h2 h4;refine ⟨rfl, rfl, .bool ad.isNone, ?_, ad.isNone, rfl, fun hn => ?_⟩
      . simp only [Sh.mk, Sh.isAgg]
        exact anl xt hu ox oy ad _ cap
      . cases ad with
        | some ad => simp at hn
        | none =>
          apply Classical.byContradiction;intro hne;obtain ⟨b, off, h10, _⟩ := h9 hne;cases h10
    . simp at h
  . simp [hagg] at h
theorem akh{c:Option SX}{fa fb:E->Option SX}{out:Out}{vc va vb:Value}(h:FD c fa fb=some out)(hc:∀x,c=some x->bB w N ρ bs hv x vc)
  (ha:∀e x,c=some (.dat .bool e)->(e.eval ρ).toBool=true->fa e=some x->bB w N ρ bs hv x va) (hb:∀e x,c=some (.dat .bool e)->(e.eval ρ).toBool=false->fb e=some x->bB w N ρ bs hv x vb):
  out.cmds=[]/\out.nv=0/\out.obs=[]/\kJ P w N ρ bs hv (do pure (if <-asBool vc then va else vb)) out.x:=by
 unfold FD at h;split at h
 .rename_i ec;split at h
  .rename_i s ea s' eb h1 h2;split at h
   .rename_i hs;subst hs;injection h with h;subst h;have hcc:=hc _ rfl;rw[jr] at hcc;subst hcc;refine ⟨rfl,rfl,rfl,if (ec.eval ρ).toBool then va else vb,by simp[asBool],?_⟩;have hx:∀vs,Exact s (.ite ec ea eb) vs:=nN (by simp) (by simp);by_cases hcb:(ec.eval ρ).toBool=true
    .refine uj ?_ hx;have:=BQ (ha ec _ rfl hcb h1);simpa [E.eval,hcb] using this
    .have hcb:(ec.eval ρ).toBool=false:=by simpa using hcb
     refine uj ?_ hx;have:=BQ (hb ec _ rfl hcb h2);simpa [E.eval,hcb] using this
   .simp at h
  .simp at h
 .simp at h
theorem al4{op:UnOp}{x:Option SX}{out:Out}{v:Value}(h:Gd op x=some out)(hx:∀y,x=some y->bB w N ρ bs hv y v):
  out.cmds=[]/\out.nv=0/\out.obs=[]/\kJ P w N ρ bs hv (Op.unary op v) out.x:=by
 unfold Gd at h;split at h
 .injection h with h;subst h;have h1:=hx _ rfl;rw[jr] at h1;subst h1;exact ⟨rfl,rfl,rfl,_,by simp[Op.unary];rfl,by rw[jr];rfl⟩
 .injection h with h;subst h;have h1:=hx _ rfl;rw[gu] at h1;subst h1;exact ⟨rfl,rfl,rfl,_,by simp[Op.unary,Op.intArith];rfl,by rw[gu];simp[E.eval,arith]⟩
 .injection h with h;subst h;have h1:=hx _ rfl;rw[gu] at h1;subst h1;exact ⟨rfl,rfl,rfl,_,by simp[Op.unary,Op.intBits];rfl,by rw[gu];simp[E.eval]⟩
 .simp at h
end
def look(l:List (Int×Value))(x:Int):Option Value:=(l.find? fun p=>p.1==x).map (·.2)
def iP:List (Int×Value)->Int->Value->List (Int×Value)
 | [],x,v=> [(x,v)]
 |p::l,x,v=>if p.1=x then (x,v)::l else p::iP l x v
theorem mO.new(w:World)(kk:IntKind):mO (w.alloc (.map #[] 0)) w.heap.size kk []:=⟨#[],0,heap_alloc_new w _,rfl⟩
theorem mO.lt{w:World}{b:Nat}{kk:IntKind}{l:List (Int×Value)}(h:mO w b kk l):b<w.heap.size:=by
 obtain ⟨es,clock,hb,_⟩:=h;exact (fu.1 hb).1
theorem LJ{kk:IntKind}(x:Int):∀(es:List MapEntry) (l:List (Int×Value)) (i:Nat),es.map (fun e=>(e.key,e.val))=l.map (fun p=>(.int kk p.1,p.2))->
  ∃r,Instr.findNow (.int kk) (.int kk x) es i=some r/\(r=none/\look l x=none/\(∀p∈l,p.1≠x)\/∃j v,r=some (i+j,v)/\look l x=some v/\∃p,l[j]?=some p/\p.1=x/\∀q∈l.take j,q.1≠x)
 | [],[],i,_=>⟨none,rfl,.inl ⟨rfl,rfl,by simp⟩⟩
 | [],_::_,_,h=>by simp at h
 |_::_,[],_,h=>by simp at h
 |e::es,p::l,i,h=>by
  simp only[eZ,iJ,fq] at h;obtain ⟨⟨h1,h2⟩,h3⟩:=h;by_cases hx:p.1=x
  .refine ⟨some (i,e.val),?_,.inr ⟨0,e.val,rfl,by simp[look,hx,h2],p,rfl,hx,by simp⟩⟩;simp[Instr.findNow,h1,Instr.sameNow,hx]
  .obtain ⟨r,hr,hc⟩:=LJ x es l (i+1) h3;have hn:Instr.findNow (.int kk) (.int kk x) (e::es) i=Instr.findNow (.int kk) (.int kk x) es (i+1):=by
    have:¬x=p.1:=fun e=>hx e.symm;have:(x==p.1)=false:=by simpa using this
    simp only[Instr.findNow,h1,Instr.sameNow,if_true,this]
   refine ⟨r,hn.trans hr,?_⟩;have hl:look (p::l) x=look l x:=by simp[look,hx]
   rcases hc with ⟨c1,c2,c3⟩|⟨j,v,c1,c2,q,c3,c4,c5⟩
   .exact .inl ⟨c1,hl.trans c2,fun q hq=>by rcases iH.1 hq with rfl|hq;exact hx;exact c3 q hq⟩
   .refine .inr ⟨j+1,v,by rw[c1];congr 2;omega,hl.trans c2,q,by simpa using c3,c4,fun z hz=>?_⟩;rw[wz] at hz;rcases iH.1 hz with rfl|hz
    .exact hx
    .exact c5 z hz
section
variable{P:Program}{w:World}{b:Nat}{kk:IntKind}{l:List (Int×Value)}{t k e:TypeId}
theorem run_findKey(hk:P.underlying k=some (.int kk)){es:Array MapEntry}(x:Int){r:Option (Nat×Value)}(hr:Instr.findNow (.int kk) (.int kk x) es.toList 0=some r):
  (Instr.findKey k (.int kk x) es.toList).run P w= .ok r w:=by
 simp[Instr.findKey,run_underlying hk,hr]
theorem run_checkKey(hk:P.underlying k=some (.int kk))(x:Int)(em:Bool):(Instr.checkKey em 10000 k (.int kk x)).run P w= .ok () w:=by
 rw[show (10000:Nat)=9999+1 from rfl,Instr.checkKey];simp[run_underlying hk]
theorem mO.anM(h:mO w b kk l)(ht:P.underlying t=some (.map k e))(hk:P.underlying k=some (.int kk)){z:Value}(hz:(zeroValue e).run P w= .ok z w)(x:Int)(ok:Bool):
  (Instr.lookup t (.map (some b)) (.int kk x) ok).run P w= .ok (if ok then .tuple #[(look l x).getD z,.bool (look l x).isSome] else (look l x).getD z) w:=by
 obtain ⟨es,clock,hb,hl⟩:=h;obtain ⟨r,hr,hc⟩:=LJ x es.toList l 0 hl;have hf:=run_findKey (w:=w) hk x hr;have hck:=run_checkKey (P:=P) (w:=w) hk x es.isEmpty;rcases hc with ⟨rfl,c2,_⟩|⟨j,v,rfl,c2,_⟩
 .cases ok<;>simp[Instr.lookup,run_underlying ht,MapKept.run_getObj_map hb,Result.andThen,hck,hf,hz,c2]
 .cases ok<;>simp[Instr.lookup,run_underlying ht,MapKept.run_getObj_map hb,Result.andThen,hck,hf,c2]
theorem aa9:∀(l:List (Int×Value)) (j:Nat) (p:Int×Value) (x:Int) (v:Value),l[j]?=some p->p.1=x->(∀q∈l.take j,q.1≠x)->iP l x v=l.set j (x,v)
 | [],_,_,_,_,h,_,_=>by simp at h
 |q::l,0,p,x,v,h,hp,_=>by
  simp at h;subst h;simp[iP,hp]
 |q::l,j+1,p,x,v,h,hp,hn=>by
  have h1:q.1≠x:=hn q (by simp);rw[iP,if_neg h1,aa9 l j p x v (by simpa using h) hp (fun z hz=>hn z (by simp[hz]))];rfl
theorem aae:∀(l:List (Int×Value)) (x:Int) (v:Value),(∀q∈l,q.1≠x)->iP l x v=l++ [(x,v)]
 | [],_,_,_=>rfl
 |q::l,x,v,h=>by
  rw[iP,if_neg (h q (by simp)),aae l x v (fun z hz=>h z (by simp[hz]))];rfl
theorem mO.anq(h:mO w b kk l)(ht:P.underlying t=some (.map k e))(hk:P.underlying k=some (.int kk))(x:Int)(v:Value):
  ∃o,(Instr.mapUpdate t (.map (some b)) (.int kk x) v).run P w= .ok () (w.putObj b o)/\mO (w.putObj b o) b kk (iP l x v):=by
 obtain ⟨es,clock,hb,hl⟩:=h;obtain ⟨r,hr,hc⟩:=LJ x es.toList l 0 hl;have hf:=run_findKey (w:=w) hk x hr;have hck:=run_checkKey (P:=P) (w:=w) hk x false;have hlt:=(fu.1 hb).1;rcases hc with ⟨rfl,c2,c3⟩|⟨j,u,rfl,c2,p,c3,c4,c5⟩
 .refine ⟨.map (es.push {key:= .int kk x,val:=v,born:=clock}) (clock+1),?_,⟨_,_,World.putObj_heap_same hlt,?_⟩⟩
  .simp[Instr.mapUpdate,run_underlying ht,MapKept.run_getObj_map hb,MapKept.run_setObj_map _ hb,Result.andThen,hck,hf,World.putObj]
  .rw[aae l x v c3];simp[hl]
 .have hj:j<es.size:=by
   have h1:=congrArg List.length hl;simp at h1;have:=(dF.1 c3).1;omega
  have hkey:(es[j]'hj).key= .int kk x:=by
   have h1:=congrArg (fun l=>l[j]?) hl;simp only[kM,c3,Array.getElem?_toList,Gc hj] at h1;simp at h1;rw[h1.1,c4]
  have hst:(Instr.keyThatStays (((es[j]?).map (·.key)).getD (.int kk x)) (.int kk x)).run P w= .ok (.int kk x) w:=by
   rw[Gc hj];simp[Instr.keyThatStays,hkey,Instr.sameBits]
  refine ⟨.map (es.modify j fun e=> {e with key:= .int kk x,val:=v}) clock,?_,⟨_,_,World.putObj_heap_same hlt,?_⟩⟩
  .simp only[iI] at hf;simp[Instr.mapUpdate,run_underlying ht,MapKept.run_getObj_map hb,MapKept.run_setObj_map _ hb,Result.andThen,hck,hf,hst,World.putObj]
  .rw[aa9 l j p x v c3 c4 c5];apply CY;intro i;have h1:=congrArg (fun l=>l[i]?) hl;simp only[kM,Array.getElem?_toList] at h1;simp only[kM,Array.getElem?_toList,Array.getElem?_modify,CZ];by_cases hij:j=i
   .subst hij;have:=(dF.1 c3).1;simp[hj,this]
   .simp only[hij,if_false];exact h1
end
theorem l8.find{R:Value->C->Prop}(x:Int):∀ {l:List (Int×Value)} {cs:List C},l8 R l cs->(look l x=none/\gy cs x=none)\/∃v d,look l x=some v/\gy cs x=some d/\R v d.tl.hd
 | [],[],_=> .inl ⟨rfl,rfl⟩
 | [],_::_,h=>h.elim
 |_::_,[],h=>h.elim
 |p::l,d::cs,⟨h1,h2,h3⟩=>by
  by_cases hx:p.1=x
  .refine .inr ⟨p.2,d,?_,?_,h2⟩
   .simp[look,hx]
   .unfold gy;rw[List.find?_cons];simp[h1,hx]
  .have e1:look (p::l) x=look l x:=by simp[look,hx]
   have e2:gy (d::cs) x=gy cs x:=by
    have hb:(p.1==x)=false:=by simpa using hx
    unfold gy;rw[List.find?_cons];simp only[h1,hb]
   rw[e1,e2];exact l8.find x h3
theorem l8.put{R:Value->C->Prop}(x:Int){v:Value}{c:C}(hv:R v c):∀ {l:List (Int×Value)} {cs:List C},l8 R l cs->l8 R (iP l x v) (lu cs x c)
 | [],[],_=>⟨rfl,hv,trivial⟩
 | [],_::_,h=>h.elim
 |_::_,[],h=>h.elim
 |p::l,d::cs,⟨h1,h2,h3⟩=>by
  unfold iP lu;rw[h1];by_cases hx:p.1=x
  .rw[if_pos hx,if_pos hx];exact ⟨rfl,hv,h3⟩
  .rw[if_neg hx,if_neg hx];exact ⟨h1,h2,l8.put x hv h3⟩
def NF(N:Nat->Prop)(hv:Nat->Value)(f:List Nat)(b:Nat):Prop:=N b\/∃r∈f,bH (hv r)=some b
theorem aqr(N:Nat->Prop)(hv:Nat->Value)(b:Nat):NF N hv [] b↔N b:=by simp[NF]
section
variable{P:Program}{w:World}{B:Nat->Prop}{N:Nat->Prop}{ρ:List C}{bs:List aG}{hv:Nat->Value}
theorem oH{pc:aM}(hp:aS ρ pc){r:Nat}{s:Sh}{e:E}(h:rowOf (aY bs) pc r=some (s,e)):∃p,bV bs r=some (s,e,p)/\aS ρ p:=by
 unfold rowOf aY at h;unfold bV;cases hb:bs[r]? with
 |none=>simp[hb] at h
 |some k=>
  obtain ⟨lb,f,p⟩:=k;cases lb<;>simp[hb] at h;obtain ⟨h1,rfl,rfl⟩:=h;exact ⟨p,rfl,rO h1 hp⟩
theorem Na{pc:aM}(hp:aS ρ pc){r:Nat}{k:IntKind}{s:Sh}{e:E}(h:mapOf (aY bs) pc r=some (k,s,e)):∃p,Co bs r=some (k,s,e,p)/\aS ρ p:=by
 unfold mapOf aY at h;unfold Co;cases hb:bs[r]? with
 |none=>simp[hb] at h
 |some k=>
  obtain ⟨lb,f,p⟩:=k;cases lb<;>simp[hb] at h;obtain ⟨h1,rfl,rfl,rfl⟩:=h;exact ⟨p,rfl,rO h1 hp⟩
theorem jy.row{r:Nat}{s:Sh}{e:E}{p:aM}(h:bV bs r=some (s,e,p))(hp:aS ρ p):jy bs ρ r:=by
 unfold bV at h;cases hb:bs[r]? with
 |none=>simp[hb] at h
 |some k=>
  obtain ⟨lb,f,p'⟩:=k;cases lb<;>simp[hb] at h;obtain ⟨rfl,rfl,rfl⟩:=h;exact ⟨_,hb,rfl,hp⟩
theorem jy.map{r:Nat}{k:IntKind}{s:Sh}{e:E}{p:aM}(h:Co bs r=some (k,s,e,p))(hp:aS ρ p):jy bs ρ r:=by
 unfold Co at h;cases hb:bs[r]? with
 |none=>simp[hb] at h
 |some k=>
  obtain ⟨lb,f,p'⟩:=k;cases lb<;>simp[hb] at h;obtain ⟨rfl,rfl,rfl,rfl⟩:=h;exact ⟨_,hb,rfl,hp⟩
structure nk (w:World) (B:Nat->Prop) (N:Nat->Prop) (ρ:List C) (bs:List aG) (hv:Nat->Value):Prop where
 row:∀r s e p,bV bs r=some (s,e,p)->aS ρ p->∃et xs,w.iA B et s.size (hv r) (e.eval ρ).toList.length xs/\bF w N s xs (e.eval ρ).toList/\0<s.size
 map:∀r k s e p,Co bs r=some (k,s,e,p)->aS ρ p->∃g l,hv r= .map (some g)/\B g/\mO w g k l/\l8 (fun v d=>Rd w N s [v] d) l (e.eval ρ).toList
theorem pQ{et:TypeId}{size:Nat}{v:Value}{n:Nat}{xs:List Value}(h:w.iA B et size v n xs):
  (v= .slice none 0 0/\n=0/\xs=[])\/∃g cap,v= .slice (some ⟨g,0,none⟩) n cap/\n<=cap/\cap<=maxLen/\g<w.heap.size/\B g/\kZ w g 0 xs:=by
 obtain ⟨h1,h2⟩:=h;rcases h2 with ⟨h2,h3⟩|⟨g,cap,cur,h3,h4,h5,h6,h7,h8,h9⟩
 .subst h3;exact .inl ⟨h2,rfl,jH (by simpa using h1)⟩
 .refine .inr ⟨g,cap,h3,h6,h7,(fu.1 h5).1,h4,fun j u hu=>?_⟩;rw[iI,cell_of_row w g j cur et (0,0) h5];rw[<-h9,mR] at hu;split at hu
  .simpa using hu
  .cases hu
theorem aa8{f:List Nat}:∀b,N b->b<w.heap.size->w.heap[b]?=w.heap[b]?/\NF N hv f b:=fun _ h _=>⟨rfl,.inl h⟩
theorem Ol{et:TypeId}{s:Sh}{v:Value}{l:List C}{xs:List Value}(hown:w.iA B et s.size v l.length xs)(hr:bF w N s xs l){N':Nat->Prop}
  (hN:∀b,N b->N' b) (hv:∀g,bH v=some g->N' g) {o m cap:Nat} {a:Option Addr} (hle:o+m<=l.length) (hm:m<=cap) (hc:cap<=maxLen)
  (ha:0<m->∃g,bH v=some g/\a=some ⟨g,o*s.size,none⟩) (c:C) (hcl:c.toList=(l.take (o+m)).drop o):Rd w N' (.sl s) [.slice a m cap] c:=by
 have hlen:c.toList.length=m:=by rw[hcl];simp;omega
 refine ⟨a,cap,by rw[hlen],by rw[hlen];exact hm,hc,fun hne=>?_⟩;have hm0:0<m:=by rw[<-hlen];exact yO.2 hne
 obtain ⟨g,hg,rfl⟩:=ha hm0;rcases pQ hown with ⟨h1,_,_⟩|⟨g',cap',h1,_,_,hlt,_,hcell⟩
 .rw[h1] at hg;cases hg
 .rw[h1] at hg;injection hg with hg;subst hg;refine ⟨g',o*s.size,rfl,hv g' (by rw[h1];rfl),hlt,?_⟩;rw[hcl];have hr':bF w N' s xs l:=hr.mono (aI _) fun b hb _=>⟨rfl,hN b hb⟩;refine qR.of_row ((hr'.take (o+m)).drop o) fun j u hu=>?_;rw[uQ,mR] at hu;split at hu
  .have:=hcell _ u hu;simpa using this
  .cases hu
theorem Mj(ρ:List C)(e:E):(JC e).eval ρ=e.eval ρ:=by unfold JC;split<;>simp[E.eval]
theorem LQ(s:Sh)(e:E)(vs:List Value):Exact (.sl s) (JC e) vs:=by
 cases e<;>trivial
theorem uZ(hrows:nk w B N ρ bs hv){pc:aM}(hp:aS ρ pc){x:SX}{s:Sh}{e:E}{f:List Nat}{v:Value}(h:iF (aY bs) pc x=some (s,e,f))(hx:bB w N ρ bs hv x v):
  bB w (NF N hv f) ρ bs hv (.dat s e) v:=by
 unfold iF at h;split at h
 .simp at h;obtain ⟨rfl,rfl,rfl⟩:=h;exact hx.le (aI _) aa8 (iQ.refl _ _ _)
 .rename_i r n;split at h
  .rename_i s' e' hr;simp at h;obtain ⟨rfl,rfl,rfl⟩:=h;obtain ⟨p,h1,h2⟩:=oH hp hr;obtain ⟨et,xs,h3,h4,_⟩:=hrows.row r _ _ p h1 h2;obtain ⟨hkn,hx⟩:=hx;obtain ⟨hx1,_⟩:=hx _ _ p h1 h2;subst hx1;have hlen:((e'.eval ρ).toList.take (0+(e'.eval ρ).toList.length)).drop 0=(e'.eval ρ).toList:=by simp
   rcases pQ h3 with ⟨h5,h6,_⟩|⟨g,cap,h5,h6,h7,_,_,_⟩
   .refine ⟨[hv r],?_,by simp[Sh.mk,Sh.isAgg],LQ _ _ _⟩;rw[h5,Mj];have:=Ol (N':=NF N hv [r]) h3 h4 (fun b hb=> .inl hb) (fun g hg=> .inr ⟨r,by simp,hg⟩) (o:=0) (m:=(e'.eval ρ).toList.length) (cap:=0) (a:=none) (by omega) (by omega) (by simp) (fun hh=>by omega) (e'.eval ρ) hlen.symm;rwa[h6] at this
   .refine ⟨[hv r],?_,by simp[Sh.mk,Sh.isAgg],LQ _ _ _⟩;rw[Mj];have:=Ol (N':=NF N hv [r]) h3 h4 (fun b hb=> .inl hb) (fun g hg=> .inr ⟨r,by simp,hg⟩) (o:=0) (m:=(e'.eval ρ).toList.length) (cap:=cap) (a:=some ⟨g,0,none⟩) (by omega) h6 h7
     (fun hh=>⟨g,by rw[h5];rfl,by simp⟩) (e'.eval ρ) hlen.symm
    rw[h5];exact this
  .simp at h
 .rename_i r off n;split at h
  .rename_i s' e' hr;simp at h;obtain ⟨rfl,rfl,rfl⟩:=h;obtain ⟨p,h1,h2⟩:=oH hp hr;obtain ⟨et,xs,h3,h4,_⟩:=hrows.row r _ _ p h1 h2;obtain ⟨hkn,hx⟩:=hx;obtain ⟨o,m,ho,hm,hle,a,cap,rfl,hmc,hcm,ha⟩:=hx _ _ p h1 h2;refine ⟨[.slice a m cap],?_,by simp[Sh.mk,Sh.isAgg],nN (by simp) (by simp) _⟩;refine Ol (N':=NF N hv [r]) h3 h4 (fun b hb=> .inl hb) (fun g hg=> .inr ⟨r,by simp,hg⟩) hle hmc hcm ha _ ?_;simp only[E.eval,nP,C.kU,C.toInt_int,ho,hm];congr 2
  .simp at h
 .simp at h;obtain ⟨rfl,rfl,rfl⟩:=h;exact ⟨[_],rfl,hx,trivial⟩
 .rename_i r;split at h
  .rename_i k s' e' hr;simp at h;obtain ⟨rfl,rfl,rfl⟩:=h;obtain ⟨p,h1,h2⟩:=Na hp hr;obtain ⟨g,l,h3,h4,h5,h6⟩:=hrows.map r _ _ _ p h1 h2;obtain ⟨hkn,hx⟩:=hx;subst hx;refine ⟨[hv r],⟨g,l,by rw[h3],.inr ⟨r,by simp,by rw[h3];rfl⟩,h5.lt,h5,h6.imp fun _ _ h=>h.mono (aI _) aa8⟩,by simp[Sh.mk,Sh.isAgg],?_⟩;cases e'<;>trivial
  .simp at h
 .simp at h
theorem aJ.rows{P:Program}{N0:Nat->Prop}{w0:Wb}{S:SS}{a:Act}(h:aJ P N0 w0 ρ S hv a w):nk w w0.own (NN N0 w0.own ρ S.blks hv) ρ S.blks hv:=by
 refine ⟨fun r s e p hr hp=>?_,fun r k s e p hr hp=>?_⟩
 .unfold bV at hr;cases hb:S.blks[r]? with
  |none=>simp[hb] at hr
  |some k=>
   obtain ⟨lb,f,p'⟩:=k;cases lb<;>simp[hb] at hr;obtain ⟨rfl,rfl,rfl⟩:=hr;exact h.blks r _ hb hp
 .unfold Co at hr;cases hb:S.blks[r]? with
  |none=>simp[hb] at hr
  |some k=>
   obtain ⟨lb,f,p'⟩:=k;cases lb<;>simp[hb] at hr;obtain ⟨rfl,rfl,rfl,rfl⟩:=hr;exact h.blks r _ hb hp
theorem aJ.nf{P:Program}{N0:Nat->Prop}{w0:Wb}{S:SS}{a:Act}(h:aJ P N0 w0 ρ S hv a w){f:List Nat}{b:Nat}(hb:NF (NN N0 w0.own ρ S.blks hv) hv f b)
  (hf:∀r∈f,jy S.blks ρ r):NN N0 w0.own ρ (aW (f.map .aV) S.blks) hv b:=by
 rcases hb with hb|⟨r,hr,hg⟩
 .exact NY f hb
 .obtain ⟨k,hbk,hlk,h2⟩:=hf r hr
  .refine ⟨.inr (h.lt hbk hlk h2 hg).2,fun r' k' hk' hl hfz hp=>?_⟩;by_cases hrr:r'=r
   .subst hrr;rw[aao f hr hk'] at hfz;cases hfz
   .have hle:=NW ρ hv f S.blks;have:∃k0,S.blks[r']?=some k0/\k0.lb=k'.lb/\k0.bM=k'.bM:=by
     clear hl hfz hp hle hg hr;revert hk';generalize S.blks=bs;induction f generalizing bs with
     |nil=>intro hk';exact ⟨k',hk',rfl,rfl⟩
     |cons q f ih=>
      intro hk';obtain ⟨k0,e1,e2,e3⟩:=ih (fun r hr=>by simp_all) _ hk';obtain ⟨k1,e4,e5,e6,_⟩:=EZ (r:=q) e1;exact ⟨k1,e4,by rw[<-e5,e2],by rw[<-e6,e3]⟩
    obtain ⟨k0,e1,e2,e3⟩:=this;exact h.dist r r' _ k0 b hbk e1 (fun e=>hrr e.symm) hlk (by rw[Iq e2];exact hl) h2 (by rw[e3];exact hp) hg
end
def C.bZ:C->Nat->C
 |c,0=>c.hd
 |c,j+1=>c.tl.bZ j
theorem C.an1{c c':C}(h:c.toList=c'.toList):∀j,c.bZ j=c'.bZ j
 |0=>by simp[C.bZ,C.hd,h]
 |j+1=>by simp[C.bZ,C.tl,h]
theorem Ia(ρ:List C)(e:E):(uH e).eval ρ=(e.eval ρ).hd:=by
 unfold uH;split<;>simp[E.eval,C.hd]
theorem H9(ρ:List C)(e:E):((uG e).eval ρ).toList=(e.eval ρ).tl.toList:=by
 unfold uG;split<;>simp[E.eval,C.tl]
theorem Ib(ρ:List C):∀(j:Nat) (e:E),(AJ e j).eval ρ=(e.eval ρ).bZ j
 |0,e=>Ia ρ e
 |j+1,e=>by
  rw[AJ,Ib ρ j,C.bZ];exact C.an1 (H9 ρ e) j
section
variable{P:Program}{w:World}{B:Nat->Prop}{N:Nat->Prop}{ρ:List C}{bs:List aG}{hv:Nat->Value}
theorem IB{a b:Sh}{e:E}{va vb:List Value}(h:Exact (.pair a b) e (va++vb))(hl:va.length=a.size):Exact a (uH e) va/\Exact b (uG e) vb:=by
 by_cases hc:∃x y,e= .cons x y
 .obtain ⟨x,y,rfl⟩:=hc;obtain ⟨ua,ub,h1,h2,h3,h4⟩:=h;obtain ⟨rfl,rfl⟩:=List.append_inj h1 (by rw[hl,h2]);exact ⟨h3,h4⟩
 .have h1:uH e= .hd e:=by cases e<;>first|rfl|exact absurd ⟨_,_,rfl⟩ hc
  have h2:uG e= .tl e:=by cases e<;>first|rfl|exact absurd ⟨_,_,rfl⟩ hc
  rw[h1,h2];exact ⟨nN (by simp) (by simp) _,nN (by simp) (by simp) _⟩
theorem Fe:∀ {s:Sh} {j:Nat} {vs:List Value} {c:C} {s':Sh} {off:Nat},Rd w N s vs c->s.bZ j=some (s',off)->
  Rd w N s' ((vs.drop off).take s'.size) (c.bZ j)/\off+s'.size<=vs.length/\∀e,Exact s e vs->Exact s' (AJ e j) ((vs.drop off).take s'.size)
 | .pair a b,0,vs,c,s',off,h,hf=>by
  simp[Sh.bZ] at hf;obtain ⟨rfl,rfl⟩:=hf;obtain ⟨h0,va,vb,rfl,h1,h2⟩:=h;have e1:List.take a.size (List.drop 0 (va++vb))=va:=by simp[<-h1.length]
  rw[e1];refine ⟨h1,by simp[h1.length],fun e he=>(IB he h1.length).1⟩
 | .pair a b,j+1,vs,c,s',off,h,hf=>by
  simp[Sh.bZ] at hf;obtain ⟨s1,o',hf,rfl,rfl⟩:=hf;obtain ⟨h0,va,vb,rfl,h1,h2⟩:=h;obtain ⟨h3,h4,h5⟩:=Fe h2 hf;have e1:List.drop (a.size+o') (va++vb)=List.drop o' vb:=by rw[<-h1.length,wu];simp
  rw[e1];exact ⟨h3,by simp[h1.length];omega,fun e he=>h5 _ (IB he h1.length).2⟩
 | .int _,_,_,_,_,_,_,hf| .bool,_,_,_,_,_,_,hf| .str,_,_,_,_,_,_,hf| .sl _,_,_,_,_,_,_,hf| .unit,_,_,_,_,_,_,hf| .bP _ _,_,_,_,_,_,_,hf| .iX,_,_,_,_,_,_,hf| .eU _,_,_,_,_,_,_,hf| .mp _ _,_,_,_,_,_,_,hf=>by simp[Sh.bZ] at hf
theorem Bv{t:TypeId}{s:Sh}(h:iB P t s=true):∃i d,P.info? t=some i/\i.size=s.size/\P.underlying t=some d/\OD P t=s.isAgg:=by
 simp only[iB,aP,beq_iff_eq] at h;obtain ⟨⟨⟨h1,h2⟩,h3⟩,h4⟩:=h;obtain ⟨i,hi⟩:=kK.1 h1;obtain ⟨d,hd⟩:=kK.1 h2;exact ⟨i,d,hi,by simpa [Program.cellsOf,hi] using h3,hd,h4⟩
theorem Y4{t:TypeId}{s:Sh}(h:iB P t s=true):(isAgg t).run P w= .ok s.isAgg w:=by
 obtain ⟨i,d,hi,_,hd,ha⟩:=Bv h;rw[<-ha];unfold isAgg OD;simp only[hd,Sem.run_bind,run_underlying hd,Result.andThen_ok];cases d<;>simp
theorem run_sizeOf{t:TypeId}{s:Sh}(h:iB P t s=true):(sizeOf t).run P w= .ok s.size w:=by
 obtain ⟨i,d,hi,hs,_,_⟩:=Bv h;simp[sizeOf,typeInfo,hi,hs]
theorem M8{t:TypeId}{s:Sh}(h:iB P t s=true){cs:List Value}{off:Nat}{us:List Value}(hu:(cs.drop off).take s.size=us)(hl:us.length=s.size):
  (part t cs.toArray off).run P w= .ok (s.mk us) w:=by
 unfold part;simp only[Sem.run_bind,Y4 h,Result.andThen_ok];by_cases ha:s.isAgg=true
 .simp[ha,run_sizeOf h,Sh.mk,<-hu,List.extract_eq_take_drop]
 .have ha:s.isAgg=false:=by simpa using ha
  have hs:s.size=1:=by cases s<;>simp_all[Sh.isAgg,Sh.size]
  rw[hs] at hu hl;match us,hl with
  | [u],_=>
   have:cs[off]?=some u:=by
    have h0:(List.take 1 (List.drop off cs))[0]?=some u:=by rw[hu];rfl
    simpa using h0
   simp[ha,this,Sh.mk]
theorem addr_add(b off n:Nat):(⟨b,off,none⟩:Addr).add n=⟨b,off+n,none⟩:=by
 unfold Addr.add;split<;>simp_all
theorem Dx{t:TypeId}{s:Sh}(h:iB P t s=true){b off:Nat}{us:List Value}(hc:kZ w b off us)(hl:us.length=s.size):
  (loadVar t ⟨b,off,none⟩).run P w= .ok (s.mk us) w:=by
 unfold loadVar;simp only[Sem.run_bind,Y4 h,Result.andThen_ok];by_cases ha:s.isAgg=true
 .have hld:=run_loadCells_list (P:=P) w ⟨b,off,none⟩ us (fun j v hv=>by rw[addr_add];exact hc j v hv);simp[ha,run_sizeOf h,<-hl,hld,Sh.mk]
 .have ha:s.isAgg=false:=by simpa using ha
  have hs:s.size=1:=by cases s<;>simp_all[Sh.isAgg,Sh.size]
  rw[hs] at hl;match us,hl with
  | [u],_=>
   have h1:=hc 0 u rfl;rw[Nat.add_zero] at h1;simp[ha,h1,Sh.mk]
theorem ajX{t:TypeId}{j:Nat}{x:Option SX}{out:Out}{v:Value}(h:E5 P t j x=some out)(hx:∀y,x=some y->bB w N ρ bs hv y v):
  out.cmds=[]/\out.nv=0/\out.obs=[]/\kJ P w N ρ bs hv (Instr.field t v j) out.x:=by
 unfold E5 at h;split at h
 .rename_i s e fs hu;split at h
  .rename_i s' off f hf hfs;split at h
   .rename_i hok;injection h with h;subst h;simp only[zQ,aP,bR] at hok;obtain ⟨vs,h1,h2,h3⟩:=hx _ rfl;have hag:s.isAgg=true:=by cases s<;>simp_all[Sh.bZ,Sh.isAgg]
    obtain ⟨h4,h5,h6⟩:=Fe h1 hf;have hv:v= .agg vs.toArray:=by rw[h2];simp[Sh.mk,hag]
    subst hv;refine ⟨rfl,rfl,rfl,s'.mk ((vs.drop off).take s'.size),?_,_,?_,rfl,h6 e h3⟩
    .have hp:=M8 (P:=P) (w:=w) hok.2 (cs:=vs) (off:=off) rfl h4.length;simp[Instr.field,run_underlying hu,hfs,asAgg,hok.1,hp]
    .rw[Ib];exact h4
   .simp at h
  .simp at h
 .simp at h
theorem zV{r:Nat}{lb:LB}{p:aM}(h:aY bs r=some ⟨lb,p⟩):∃f,bs[r]?=some ⟨lb,f,p⟩:=by
 unfold aY at h;cases hb:bs[r]? with
 |none=>simp[hb] at h
 |some k=>obtain ⟨lb',f,p'⟩:=k;simp[hb] at h;obtain ⟨rfl,rfl⟩:=h;exact ⟨f,rfl⟩
def ab8(w:World)(B:Nat->Prop)(N:Nat->Prop)(ρ:List C)(bs:List aG)(hv:Nat->Value):Prop:=
 ∀r cs p,dZ bs r=some (cs,p)->aS ρ p->∃g bt arr,hv r= .pointer (some ⟨g,0,none⟩)/\B g/\w.heap[g]?=some (.cells arr bt (0,0))/\dY w N ρ bs hv cs arr.toList
theorem aJ.boxes{P:Program}{N0:Nat->Prop}{w0:Wb}{S:SS}{a:Act}(h:aJ P N0 w0 ρ S hv a w):ab8 w w0.own (NN N0 w0.own ρ S.blks hv) ρ S.blks hv:=by
 intro r cs p hr hp;unfold dZ at hr;cases hb:S.blks[r]? with
 |none=>simp[hb] at hr
 |some k=>
  obtain ⟨lb,f,p'⟩:=k;cases lb<;>simp[hb] at hr;obtain ⟨rfl,rfl⟩:=hr;exact h.blks r _ hb hp
theorem aaM:∀ {cs:List SX} {vs:List Value} {j:Nat} {x:SX},dY w N ρ bs hv cs vs->cs[j]?=some x->∃v,vs[j]?=some v/\bB w N ρ bs hv x v
 | [],_,_,_,_,hj=>by simp at hj
 |_::_,_,0,_,⟨v,r,h1,h2,_⟩,hj=>by
  simp at hj;subst hj h1;exact ⟨v,rfl,h2⟩
 |_::l,_,j+1,_,⟨v,r,h1,_,h3⟩,hj=>by
  subst h1;have:=aaM (j:=j) h3 (by simpa using hj);simpa using this
theorem Ie:∀ {cs:List SX} {vs:List Value} (j:Nat),dY w N ρ bs hv cs vs->dY w N ρ bs hv (cs.drop j) (vs.drop j)
 | [],_,j,h=>by simp only[dY] at h;subst h;simp[dY]
 |_::_,_,0,h=>by simpa using h
 |_::_,_,j+1,⟨v,r,h1,_,h3⟩=>by
  subst h1;simpa using Ie j h3
theorem XU:∀ {cs:List SX} {vs:List Value},dY w N ρ bs hv cs vs->vs.length=cs.length
 | [],_,h=>by simp only[dY] at h;subst h;rfl
 |_::_,_,⟨v,r,h1,_,h3⟩=>by subst h1;simp[XU h3]
theorem Ja{f g:List Nat}{b:Nat}(h:NF N hv f b):NF N hv (f++g) b:=by
 rcases h with h|⟨r,hr,hg⟩
 .exact .inl h
 .exact .inr ⟨r,by simp[hr],hg⟩
theorem Iz{f g:List Nat}{b:Nat}(h:NF N hv g b):NF N hv (f++g) b:=by
 rcases h with h|⟨r,hr,hg⟩
 .exact .inl h
 .exact .inr ⟨r,by simp[hr],hg⟩
theorem ajt(hrows:nk w B N ρ bs hv){pc:aM}(hp:aS ρ pc):∀ {s:Sh} {cs:List SX} {vs:List Value} {e:E} {f:List Nat} {r:List SX},dK (aY bs) pc s cs=some (e,f,r)->dY w N ρ bs hv cs vs->
  ∃us vr,vs=us++vr/\Rd w (NF N hv f) s us (e.eval ρ)/\Exact s e us/\dY w N ρ bs hv r vr:=by
 have leaf:∀ {s:Sh} {cs:List SX} {vs:List Value} {e:E} {f:List Nat} {r:List SX},s.isAgg=false->oO (aY bs) pc s cs=some (e,f,r)->dY w N ρ bs hv cs vs->∃us vr,vs=us++vr/\Rd w (NF N hv f) s us (e.eval ρ)/\Exact s e us/\dY w N ρ bs hv r vr:=by
  intro s cs vs e f r hs h hx;cases cs with
  |nil=>simp[oO] at h
  |cons x l=>
   obtain ⟨v,vr,rfl,h1,h2⟩:=hx;simp only[oO] at h;split at h
   .rename_i s' e' f' hd;split at h
    .rename_i hss;subst hss;simp at h;obtain ⟨rfl,rfl,rfl⟩:=h;obtain ⟨us,h3,h4,h5⟩:=uZ hrows hp hd h1;have hl:us.length=1:=by rw[h3.length];cases s<;>simp_all[Sh.isAgg,Sh.size]
     match us,hl with
     | [u],_=>
      simp[Sh.mk,hs] at h4;subst h4;exact ⟨[v],vr,rfl,h3,h5,h2⟩
    .simp at h
   .simp at h
 intro s;induction s with
 |int k=>intro cs vs e f r h;exact leaf rfl (by simpa [dK] using h)
 |bool=>intro cs vs e f r h;exact leaf rfl (by simpa [dK] using h)
 |str=>intro cs vs e f r h;exact leaf rfl (by simpa [dK] using h)
 |sl s _=>intro cs vs e f r h;exact leaf rfl (by simpa [dK] using h)
 |bP t s _=>intro cs vs e f r h;exact leaf rfl (by simpa [dK] using h)
 |iX=>intro cs vs e f r h;exact leaf rfl (by simpa [dK] using h)
 |eU g=>intro cs vs e f r h;exact leaf rfl (by simpa [dK] using h)
 |mp k s _=>intro cs vs e f r h;exact leaf rfl (by simpa [dK] using h)
 |unit=>
  intro cs vs e f r h hx;simp[dK] at h;obtain ⟨rfl,rfl,rfl⟩:=h;exact ⟨[],vs,rfl,rfl,by simp[Exact],hx⟩
 |pair a b iha ihb=>
  intro cs vs e f r h hx;simp only[dK] at h;split at h
  .rename_i hb;split at h
   .rename_i x f1 r1 h1;split at h
    .rename_i y f2 r2 h2;simp at h;obtain ⟨rfl,rfl,rfl⟩:=h;obtain ⟨u1,v1,e1,g1,x1,hx1⟩:=iha h1 hx;obtain ⟨u2,v2,e2,g2,x2,hx2⟩:=ihb h2 hx1;have m1:∀b,NF N hv f1 b->b<w.heap.size->w.heap[b]?=w.heap[b]?/\NF N hv (f1++f2) b:=fun b hb _=>⟨rfl,Ja hb⟩;have m2:∀b,NF N hv f2 b->b<w.heap.size->w.heap[b]?=w.heap[b]?/\NF N hv (f1++f2) b:=fun b hb _=>⟨rfl,Iz hb⟩;refine ⟨u1++u2,v2,by rw[e1,e2,dI],⟨hb,u1,u2,rfl,?_,?_⟩,⟨u1,u2,rfl,g1.length,x1,x2⟩,hx2⟩
     .simpa [E.eval,C.hd] using g1.mono (aI _) m1
     .exact (g2.mono (aI _) m2).tX hb (by simp[E.eval,C.tl])
    .simp at h
   .simp at h
  .simp at h
theorem zn{pc:aM}(hp:aS ρ pc){x:SX}{s:Sh}{e:E}{f:List Nat}(h:iF (aY bs) pc x=some (s,e,f)):∀q∈f,jy bs ρ q:=by
 intro q hq;unfold iF at h;split at h
 .simp at h;obtain ⟨_,_,rfl⟩:=h;cases hq
 .split at h
  .rename_i hr;simp at h;obtain ⟨_,_,rfl⟩:=h;simp at hq;subst hq;obtain ⟨p,h1,h2⟩:=oH hp hr;exact jy.row h1 h2
  .simp at h
 .split at h
  .rename_i hr;simp at h;obtain ⟨_,_,rfl⟩:=h;simp at hq;subst hq;obtain ⟨p,h1,h2⟩:=oH hp hr;exact jy.row h1 h2
  .simp at h
 .simp at h;obtain ⟨_,_,rfl⟩:=h;cases hq
 .split at h
  .rename_i hr;simp at h;obtain ⟨_,_,rfl⟩:=h;simp at hq;subst hq;obtain ⟨p,h1,h2⟩:=Na hp hr;exact jy.map h1 h2
  .simp at h
 .simp at h
theorem akb{pc:aM}(hp:aS ρ pc):∀ {s:Sh} {cs:List SX} {e:E} {f:List Nat} {r:List SX},dK (aY bs) pc s cs=some (e,f,r)->∀q∈f,jy bs ρ q:=by
 have dat:∀ {x:SX} {s:Sh} {e:E} {f:List Nat},iF (aY bs) pc x=some (s,e,f)->∀q∈f,jy bs ρ q:=fun h=>zn hp h;have leaf:∀ {s:Sh} {cs:List SX} {e:E} {f:List Nat} {r:List SX},oO (aY bs) pc s cs=some (e,f,r)->∀q∈f,jy bs ρ q:=by
  intro s cs e f r h;cases cs with
  |nil=>simp[oO] at h
  |cons x l=>
   simp only[oO] at h;split at h
   .rename_i hd;split at h
    .simp at h;obtain ⟨_,rfl,_⟩:=h;exact dat hd
    .simp at h
   .simp at h
 intro s;induction s with
 |int k=>intro cs e f r h;exact leaf (s:= .int k) (by simpa [dK] using h)
 |bool=>intro cs e f r h;exact leaf (s:= .bool) (by simpa [dK] using h)
 |str=>intro cs e f r h;exact leaf (s:= .str) (by simpa [dK] using h)
 |sl s _=>intro cs e f r h;exact leaf (s:= .sl s) (by simpa [dK] using h)
 |bP t s _=>intro cs e f r h;exact leaf (s:= .bP t s) (by simpa [dK] using h)
 |iX=>intro cs e f r h;exact leaf (s:= .iX) (by simpa [dK] using h)
 |eU g=>intro cs e f r h;exact leaf (s:= .eU g) (by simpa [dK] using h)
 |mp k s _=>intro cs e f r h;exact leaf (s:= .mp k s) (by simpa [dK] using h)
 |unit=>
  intro cs e f r h q hq;simp[dK] at h;obtain ⟨_,rfl,_⟩:=h;cases hq
 |pair a b iha ihb=>
  intro cs e f r h q hq;simp only[dK] at h;split at h
  .split at h
   .rename_i x f1 r1 h1;split at h
    .rename_i y f2 r2 h2;simp at h;obtain ⟨_,rfl,_⟩:=h;rcases iZ.1 hq with hq|hq
     .exact iha h1 q hq
     .exact ihb h2 q hq
    .simp at h
   .simp at h
  .simp at h
theorem LH(hrows:nk w B N ρ bs hv)(aqf:ab8 w B N ρ bs hv){pc:aM}(hp:aS ρ pc){t:TypeId}{x:Option SX}{out:Out}{v:Value}
  (h:vK P (aY bs) pc t x=some out) (hx:∀y,x=some y->bB w N ρ bs hv y v):
  ∃f,out.cmds=f.map .aV/\(∀q∈f,jy bs ρ q)/\out.nv=0/\out.obs=[]/\∃u,(Instr.loadAt t v).run P w= .ok u w/\bB w (NF N hv f) ρ bs hv out.x u:=by
 have m0:∀b,N b->b<w.heap.size->w.heap[b]?=w.heap[b]?/\NF N hv [] b:=fun b hb _=>⟨rfl,.inl hb⟩;unfold vK at h;split at h
 .rename_i s e;split at h
  .rename_i hf;injection h with h;subst h;obtain ⟨b,off,us,rfl,h2,h3,h4,h5,h6⟩:=hx _ rfl;refine ⟨[],rfl,by simp,rfl,rfl,s.mk us,by simp[Instr.loadAt,Instr.sureAddr,Dx hf h4 h5.length],us,h5.mono (aI _) m0,rfl,h6⟩
  .simp at h
 .rename_i r i fo s bZ;obtain ⟨hkn,hrow,oC⟩:=hx _ rfl;split at h
  .rename_i hf;split at h
   .rename_i es e p hrb;obtain ⟨fz,hb⟩:=zV hrb;split at h
    .rename_i hsub;have hpp:=rO hsub hp;have hin:bV bs r=some (es,e,p):=by simp[bV,hb]
     obtain ⟨o,g,ho,hlt,hg,rfl,FX⟩:=hrow es e p hin hpp;obtain ⟨et,xs,hown,hrd,hsz⟩:=hrows.row r es e p hin hpp;obtain ⟨c,hc⟩:∃c,(e.eval ρ).toList[o]?=some c:=⟨_,iK hlt⟩;have hat:=hrd.at_ hc;have hcell:kZ w g 0 xs:=by
      rcases pQ hown with ⟨h1,_,_⟩|⟨g',cap',h1,_,_,_,_,hcell⟩
      .rw[h1] at hg;cases hg
      .rw[h1] at hg;injection hg with hg;subst hg;exact hcell
     have ad9:((E.idx e i).eval ρ)=c:=by simp[E.eval,ho,List.getD,hc]
     split at h
     .obtain ⟨rfl,rfl⟩:=FX;simp at h;subst h;have hc2:kZ w g (o*s.size+0) ((xs.drop (o*s.size)).take s.size):=fun j u hu=>by
       rw[mR] at hu;split at hu
       .rw[uQ] at hu;have:=hcell _ u hu;simpa [oD] using this
       .cases hu
      refine ⟨[],rfl,by simp,rfl,rfl,s.mk ((xs.drop (o*s.size)).take s.size),by simpa [Instr.loadAt,Instr.sureAddr] using Dx (P:=P) hf hc2 hat.length,_,?_,rfl,nN (by simp) (by simp) _⟩;rw[ad9];exact hat.mono (aI _) m0
     .rename_i j;split at h
      .rename_i hj;simp at h;subst h;obtain ⟨h4,h5,h6⟩:=Fe hat hj;have hc2:kZ w g (o*es.size+fo) ((((xs.drop (o*es.size)).take es.size).drop fo).take s.size):=fun j u hu=>by
        rw[mR] at hu;split at hu
        .rw[uQ,mR] at hu;split at hu
         .rw[uQ] at hu;have:=hcell _ u hu;simpa [oD] using this
         .cases hu
        .cases hu
       refine ⟨[],rfl,by simp,rfl,rfl,_,by simp[Instr.loadAt,Instr.sureAddr,Dx hf hc2 h4.length],_,?_,rfl,h6 _ (nN (by simp) (by simp) _)⟩;rw[Ib,ad9];exact h4.mono (aI _) m0
      .rename_i hne;exact absurd FX hne
    .simp at h
   .rename_i cs p hrb;obtain ⟨fz,hb⟩:=zV hrb;split at h
    .rename_i hsub;have hpp:=rO hsub hp;have hin:dZ bs r=some (cs,p):=by simp[dZ,hb]
     obtain ⟨g,hg,rfl⟩:=oC cs p hin hpp;obtain ⟨g',bt,arr,h1,h2,h3,h4⟩:=aqf r cs p hin hpp;rw[h1] at hg;injection hg with hg;subst hg;split at h
     .rename_i hag;split at h
      .rename_i e f rr hu;simp at h;subst h;obtain ⟨us,vr,e1,g1,x1,_⟩:=ajt hrows hp hu (Ie fo h4);have hc2:kZ w g' fo us:=fun j u hu=>by
        rw[cell_of_row w g' _ arr bt (0,0) h3];have:(us++vr)[j]?=some u:=by rw[rD (dF.1 hu).1];exact hu
        rw[<-e1,uQ] at this;simpa using this
       exact ⟨f,rfl,akb hp hu,rfl,rfl,_,by simp[Instr.loadAt,Instr.sureAddr,Dx hf hc2 g1.length],us,g1,rfl,x1⟩
      .simp at h
     .rename_i hag;have hag:s.isAgg=false:=by simpa using hag
      split at h
      .rename_i x hx;simp at h;subst h;obtain ⟨v,hv1,hv2⟩:=aaM h4 hx;have hc2:kZ w g' fo [v]:=fun j u hu=>by
        rw[cell_of_row w g' _ arr bt (0,0) h3];cases j with
        |zero=>simp at hu;subst hu;simpa using hv1
        |succ j=>simp at hu
       have hs1:s.size=1:=by cases s<;>simp_all[Sh.isAgg,Sh.size]
       refine ⟨[],rfl,by simp,rfl,rfl,v,?_,hv2.le (aI _) m0 (iQ.refl _ _ _)⟩;have hr:=Dx (P:=P) hf hc2 (by simp[hs1]);simp only[Sh.mk,hag] at hr;simpa [Instr.loadAt,Instr.sureAddr] using hr
      .simp at h
    .simp at h
   .simp at h
  .simp at h
 .simp at h
theorem MH{st:TypeId}{fs:Array Field}{f:Field}{j:Nat}{s:Sh}{off b o:Nat}(hu:P.underlying st=some (.struct fs))(hf:fs[j]?=some f)(hok:IX P f s off=true):
  (Instr.fieldAt st (.pointer (some ⟨b,o,none⟩)) j).run P w= .ok (.pointer (some ⟨b,o+off,none⟩)) w:=by
 simp only[IX,aP,bR,bne_iff_ne] at hok;obtain ⟨⟨⟨h1,h2⟩,h3⟩,h4⟩:=hok;obtain ⟨i,hi⟩:=kK.1 h3;have hs:i.size=s.size:=by simpa [Program.cellsOf,hi] using h4
 have hne:i.size≠0:=by rw[hs];exact h2
 simp[Instr.fieldAt,run_underlying hu,hf,Instr.sureAddr,fieldPlace,sizeOf,typeInfo,hi,hne,addr_add,h1]
theorem ajY{st:TypeId}{j:Nat}{x:Option SX}{out:Out}{v:Value}{pc:aM}(hp:aS ρ pc)(h:Cc P (aY bs) pc st j x=some out)(hx:∀y,x=some y->bB w N ρ bs hv y v):
  out.cmds=[]/\out.nv=0/\out.obs=[]/\kJ P w N ρ bs hv (Instr.fieldAt st v j) out.x:=by
 unfold Cc at h;split at h
 .rename_i r i fo s fs hu;obtain ⟨hkn,hrow,oC⟩:=hx _ rfl;split at h
  .rename_i s' off f hf hfs;split at h
   .rename_i hok;simp only[aP] at hok;obtain ⟨hok,hlv⟩:=hok;split at h
    .rename_i es e p hrb;obtain ⟨fz,hb⟩:=zV hrb;split at h
     .rename_i hfo;subst hfo;simp at h;subst h;have hpp:aS ρ p:=rO (by simpa [mJ,hrb] using hlv) hp;have hin:bV bs r=some (es,e,p):=by simp[bV,hb]
      obtain ⟨o,g,ho,hlt,hg,rfl,_,rfl⟩:=hrow es e p hin hpp;refine ⟨rfl,rfl,rfl,_,MH hu hfs hok,hkn,fun es' e' p' hin' _=>?_,fun cs p' hin' _=>?_⟩
      .rw[hin] at hin';simp at hin';obtain ⟨rfl,rfl,rfl⟩:=hin';exact ⟨o,g,ho,hlt,hg,by simp,hf⟩
      .simp[dZ,hb] at hin'
     .simp at h
    .rename_i cs p hrb;obtain ⟨fz,hb⟩:=zV hrb;simp at h;subst h;have hpp:aS ρ p:=rO (by simpa [mJ,hrb] using hlv) hp;have hin:dZ bs r=some (cs,p):=by simp[dZ,hb]
     obtain ⟨g,hg,rfl⟩:=oC cs p hin hpp;refine ⟨rfl,rfl,rfl,_,MH hu hfs hok,hkn,fun es' e' p' hin' _=>?_,fun cs p' hin' _=>⟨g,hg,rfl⟩⟩;simp[bV,hb] at hin'
    .simp at h
   .simp at h
  .simp at h
 .rename_i s e fs hu;split at h
  .rename_i s' off f hf hfs;split at h
   .rename_i hok;simp at h;subst h;obtain ⟨b,o,us,rfl,h2,h3,h4,h5,h6⟩:=hx _ rfl;obtain ⟨g1,g2,g3⟩:=Fe h5 hf;refine ⟨rfl,rfl,rfl,_,MH hu hfs hok,b,o+off,_,rfl,h2,h3,fun k u hk=>?_,by rw[Ib];exact g1,g3 e h6⟩;rw[mR] at hk;split at hk
    .rw[uQ] at hk;have:=h4 _ u hk;simpa [oD] using this
    .cases hk
   .simp at h
  .simp at h
 .simp at h
theorem alB(hrows:nk w B N ρ bs hv){pc:aM}(hp:aS ρ pc){x:Option SX}{out:Out}{v:Value}(h:CF (aY bs) pc x=some out)(hx:∀y,x=some y->bB w N ρ bs hv y v):
  out.cmds=[]/\out.nv=0/\out.obs=[]/\bB w N ρ bs hv out.x v/\((∃a,v= .pointer (some a))\/∃f,v= .func (.func f) #[] #[]):=by
 unfold CF at h;split at h
 .rename_i r i fo s bZ;split at h
  .rename_i hlv;simp at h;subst h;have dO:=hx _ rfl;refine ⟨rfl,rfl,rfl,dO,.inl ?_⟩;obtain ⟨hkn,h1,h2⟩:=dO;unfold mJ at hlv;split at hlv
   .rename_i es e p hrb;obtain ⟨fz,hb⟩:=zV hrb;obtain ⟨o,g,_,_,_,h3,_⟩:=h1 es e p (by simp[bV,hb]) (rO hlv hp);exact ⟨_,h3⟩
   .rename_i cs p hrb;obtain ⟨fz,hb⟩:=zV hrb;obtain ⟨g,_,h3⟩:=h2 cs p (by simp[dZ,hb]) (rO hlv hp);exact ⟨_,h3⟩
   .cases hlv
  .simp at h
 .simp at h;subst h;have dO:=hx _ rfl;refine ⟨rfl,rfl,rfl,dO,.inl ?_⟩;obtain ⟨b,off,us,h1,_⟩:=dO;exact ⟨_,h1⟩
 .simp at h;subst h;have dO:=hx _ rfl;exact ⟨rfl,rfl,rfl,dO,.inr ⟨_,dO⟩⟩
 .simp at h
theorem u7{t et:TypeId}(h:nu P t=some et):P.underlying t=some (.slice et):=by
 unfold nu at h;split at h<;>simp_all
theorem LU{et:TypeId}{s:Sh}(h:qK P et s=true):(sizeOf et).run P w= .ok s.size w:=by
 simp only[qK,aP,bR] at h;obtain ⟨i,hi⟩:=kK.1 h.1;have:i.size=s.size:=by simpa [Program.cellsOf,hi] using h.2
 simp[sizeOf,typeInfo,hi,this]
theorem BD(ρ:List C):∀(e:E),(ny e).eval ρ= .int ((e.eval ρ).toList.length):=by
 intro e;induction e with
 |cons h t _ ih=>
  simp only[ny];split
  .rename_i n hn;rw[hn] at ih;simp[E.eval] at ih |-;omega
  .simp[E.eval]
 |_=>simp[ny,E.eval]
theorem MF{t et:TypeId}{s:Sh}(ht:P.underlying t=some (.slice et))(hok:qK P et s=true){b off len cap o:Nat}{k:IntKind}(h:o<len):
  (Instr.indexAt t (.slice (some ⟨b,off,none⟩) len cap) (.int k (o:Int))).run P w= .ok (.pointer (some ⟨b,off+o*s.size,none⟩)) w:=by
 simp[Instr.indexAt,asIntOf,run_underlying ht,LU hok,addr_add,h]
theorem GA{pc:aM}(hp:aS ρ pc){i n:E}{nv:Nat}(h:dB P ρ nv (BI pc i n)):∃o:Nat,(i.eval ρ).toInt=(o:Int)/\(o:Int)<(n.eval ρ).toInt:=by
 unfold BI at h;obtain ⟨h1,h2⟩:=Ef hp h;have h3:=xB hp h2;simp[E.eval,jk] at h1 h3;exact ⟨(i.eval ρ).toInt.toNat,by omega,by omega⟩
theorem ajj(hrows:nk w B N ρ bs hv){pc:aM}(hp:aS ρ pc){t:TypeId}{x:Option SX}{ki:IntKind}{i:Option (IntKind×E)}{out:Out}{v vi:Value}{nv:Nat}
  (h:vC P (aY bs) pc t x i=some out) (hx:∀y,x=some y->bB w N ρ bs hv y v) (hi:∀k e,i=some (k,e)->vi= .int k (e.eval ρ).toInt) (ho:dB P ρ nv out.obs):
  out.cmds=[]/\out.nv=0/\kJ P w N ρ bs hv (Instr.indexAt t v vi) out.x:=by
 unfold vC at h;split at h
 .rename_i et s e k i ht;split at h
  .rename_i hok;simp at h;subst h;obtain ⟨o,h1,h2⟩:=GA hp ho;have mY:=hi k i rfl;rw[h1] at mY;subst mY;obtain ⟨a,cap,h3,h4,h5,h6⟩:=Ce (hx _ rfl);rw[BD] at h2;simp only[C.toInt_int,Int.ofNat_lt] at h2;simp only[iJ,and_true] at h3;obtain ⟨b,off,rfl,hn,hlt,hra⟩:=h6 (by intro h;rw[h] at h2;simp at h2);subst h3;obtain ⟨c,hc⟩:∃c,(e.eval ρ).toList[o]?=some c:=⟨_,iK h2⟩;obtain ⟨us,hl,hca,hrd⟩:=hra o c hc;refine ⟨rfl,rfl,_,MF (u7 ht) hok h2,b,_,us,rfl,hn,hlt,hca,?_,nN (by simp) (by simp) _⟩;simpa [E.eval,h1,List.getD,hc] using hrd
  .simp at h
 .rename_i et r n k i ht;split at h
  .rename_i s e hr;split at h
   .rename_i hok;simp at h;subst h;obtain ⟨o,h1,h2⟩:=GA hp ho;have mY:=hi k i rfl;rw[h1] at mY;subst mY;obtain ⟨p,hin,hpp⟩:=oH hp hr;obtain ⟨hkn,dO⟩:=hx _ rfl;obtain ⟨rfl,hlen⟩:=dO _ _ p hin hpp;obtain ⟨dV,xs,hown,_,_⟩:=hrows.row r _ _ p hin hpp;rw[hlen] at h2;have h2:o<(e.eval ρ).toList.length:=by omega
    rcases pQ hown with ⟨_,h6,_⟩|⟨g,cap,h5,h6,h7,_,_,_⟩
    .omega
    .refine ⟨rfl,rfl,_,by rw[h5];exact MF (u7 ht) hok h2,hkn,fun es' e' p' hin' _=>?_,fun cs p' hin' _=>?_⟩
     .rw[hin] at hin';simp at hin';obtain ⟨rfl,rfl,rfl⟩:=hin';exact ⟨o,g,h1,h2,by rw[h5];rfl,by simp,rfl,rfl⟩
     .unfold bV at hin;unfold dZ at hin';split at hin<;>simp_all
   .simp at h
  .simp at h
 .rename_i et r off n k i ht;split at h
  .rename_i s e hr;split at h
   .rename_i hok;simp at h;subst h;obtain ⟨o,h1,h2⟩:=GA hp ho;have mY:=hi k i rfl;rw[h1] at mY;subst mY;obtain ⟨p,hin,hpp⟩:=oH hp hr;obtain ⟨hkn,dO⟩:=hx _ rfl;obtain ⟨o',m,ho',hm,hle,a,cap,rfl,hmc,hcm,ha⟩:=dO _ _ p hin hpp;rw[hm] at h2;have h2:o<m:=by omega
    obtain ⟨g,hg,rfl⟩:=ha (by omega);refine ⟨rfl,rfl,_,MF (u7 ht) hok h2,hkn,fun es' e' p' hin' _=>?_,fun cs p' hin' _=>?_⟩
    .rw[hin] at hin';simp at hin';obtain ⟨rfl,rfl,rfl⟩:=hin';exact ⟨o'+o,g,by simp[E.eval,nP,ho',h1],by omega,hg,by simp[Nat.add_mul],rfl,rfl⟩
    .unfold bV at hin;unfold dZ at hin';split at hin<;>simp_all
   .simp at h
  .simp at h
 .simp at h
theorem abY{t et:TypeId}{s:Sh}{n:Nat}(ht:P.underlying t=some (.array n et))(hok:qK P et s=true){b o:Nat}{k:IntKind}{j:Int}(h0:0<=j)(h:j<n):
  (Instr.indexAt t (.pointer (some ⟨b,o,none⟩)) (.int k j)).run P w= .ok (.pointer (some ⟨b,o+j.toNat*s.size,none⟩)) w:=by
 simp[Instr.indexAt,asIntOf,Instr.sureAddr,run_underlying ht,LU hok,addr_add,h,h0]
theorem alW{pc:aM}(hp:aS ρ pc){t:TypeId}{x:Option SX}{i:Option (IntKind×E)}{out:Out}{v vi:Value}
  (h:vZ P (aY bs) pc t x i=some out) (hx:∀y,x=some y->bB w N ρ bs hv y v) (hi:∀k e,i=some (k,e)->vi= .int k (e.eval ρ).toInt):
  out.cmds=[]/\out.nv=0/\kJ P w N ρ bs hv (Instr.indexAt t v vi) out.x:=by
 unfold vZ at h;split at h
 .rename_i r i0 s k j n et ht;split at h
  .rename_i s' off hf;split at h
   .rename_i hok;simp only[aP,bR,beq_iff_eq] at hok;obtain ⟨⟨h0,hn⟩,hel,hoff,hlv⟩:=hok;simp at h;subst h;obtain ⟨hkn,hrow,oC⟩:=hx _ rfl;have mY:=hi k _ rfl;simp only[E.eval,C.toInt_int] at mY;subst mY hoff;cases hrb:aY bs r with
    |none=>simp[mJ,hrb] at hlv
    |some y=>
     obtain ⟨lb,p⟩:=y;obtain ⟨fz,hb⟩:=zV hrb;cases lb with
     |row es e=>
      have hpp:aS ρ p:=rO (by simpa [mJ,hrb] using hlv) hp;have hin:bV bs r=some (es,e,p):=by simp[bV,hb]
      obtain ⟨o,g,ho,hlt,hg,rfl,_,rfl⟩:=hrow es e p hin hpp;refine ⟨rfl,rfl,_,abY ht hel h0 hn,hkn,fun es' e' p' hin' _=>?_,fun cs p' hin' _=>?_⟩
      .rw[hin] at hin';simp at hin';obtain ⟨rfl,rfl,rfl⟩:=hin';exact ⟨o,g,ho,hlt,hg,by simp,hf⟩
      .simp[dZ,hb] at hin'
     |box cs=>
      have hpp:aS ρ p:=rO (by simpa [mJ,hrb] using hlv) hp;have hin:dZ bs r=some (cs,p):=by simp[dZ,hb]
      obtain ⟨g,hg,rfl⟩:=oC cs p hin hpp;refine ⟨rfl,rfl,_,abY ht hel h0 hn,hkn,fun es' e' p' hin' _=>?_,fun cs p' hin' _=>⟨g,hg,by simp⟩⟩;simp[bV,hb] at hin'
     |_=>simp[mJ,hrb] at hlv
   .simp at h
  .simp at h
 .simp at h
theorem ajU(hrows:nk w B N ρ bs hv){pc:aM}(hp:aS ρ pc){t:TypeId}{x:Option SX}{ki:IntKind}{i:Option (IntKind×E)}{out:Out}{v vi:Value}{nv:Nat}
  (h:vI P (aY bs) pc t x i=some out) (hx:∀y,x=some y->bB w N ρ bs hv y v) (hi:∀k e,i=some (k,e)->vi= .int k (e.eval ρ).toInt) (ho:dB P ρ nv out.obs):
  out.cmds=[]/\out.nv=0/\kJ P w N ρ bs hv (Instr.indexAt t v vi) out.x:=by
 unfold vI at h;split at h
 .exact alW hp h hx hi
 .exact ajj (ki:=ki) hrows hp h hx hi ho
end
section
variable{P:Program}{w:World}{B:Nat->Prop}{N:Nat->Prop}{ρ:List C}{bs:List aG}{hv:Nat->Value}
theorem ajT{pc:aM}(hp:aS ρ pc){t:TypeId}{x:Option SX}{i:Option (IntKind×E)}{out:Out}{v vi:Value}{nv:Nat}
  (h:ES P pc t x i=some out) (hx:∀y,x=some y->bB w N ρ bs hv y v) (hi:∀k e,i=some (k,e)->vi= .int k (e.eval ρ).toInt) (ho:dB P ρ nv out.obs):
  out.cmds=[]/\out.nv=0/\kJ P w N ρ bs hv (Instr.index t v vi) out.x:=by
 unfold ES at h;split at h
 .rename_i e k i ht;simp at h;subst h;obtain ⟨o,h1,h2⟩:=GA hp ho;have mY:=hi k i rfl;rw[h1] at mY;subst mY;have dO:=hx _ rfl;rw[oJ] at dO;subst dO;simp[E.eval] at h2;refine ⟨rfl,rfl,.int .u8 ((e.eval ρ).toStr[o]).toNat,?_,by rw[gu];simp[E.eval,h1,List.getD,h2]⟩;have hg:(⟨(e.eval ρ).toStr.toArray⟩:ByteArray)[o]?=some (e.eval ρ).toStr[o]:=by
   rw[getElem?_pos _ o (by simpa [ByteArray.size] using h2)];simp[ByteArray.getElem_eq_getElem_data]
  simp[Instr.index,asIntOf,run_underlying ht,hg]
 .simp at h
theorem Ht{pc:aM}(hp:aS ρ pc){lo hi n:E}{nv:Nat}(h:dB P ρ nv (Cr pc lo hi n)):
  ∃l k:Nat,(lo.eval ρ).toInt=(l:Int)/\(hi.eval ρ).toInt=(k:Int)/\l<=k/\(k:Int)<=(n.eval ρ).toInt:=by
 unfold Cr at h;obtain ⟨h1,h2⟩:=Ef hp h;obtain ⟨h3,h4⟩:=Ef hp h2;have h5:=xB hp h4;simp[E.eval,jk] at h1 h3 h5;exact ⟨(lo.eval ρ).toInt.toNat,(hi.eval ρ).toInt.toNat,by omega,by omega,by omega,by omega⟩
def Om(ρ:List C)(d:E)(o:Option Value)(e:E):Prop:=(o=none/\e=d)\/∃k,o=some (.int k (e.eval ρ).toInt)
theorem He(isSlice:Bool){lo hi:Option Value}{el eh n:E}{l k cap:Nat}(hl:Om ρ (.int 0) lo el)(hh:Om ρ n hi eh){len:Nat}(hn:(n.eval ρ).toInt=(len:Int))
  (h1:(el.eval ρ).toInt=(l:Int)) (h2:(eh.eval ρ).toInt=(k:Int)) (h3:l<=k) (h4:k<=cap):
  (Instr.sliceBounds isSlice len cap lo hi none).run P w= .ok (l,k,cap) w:=by
 rcases hl with ⟨rfl,rfl⟩|⟨k1,rfl⟩
 .simp[E.eval] at h1;rcases hh with ⟨rfl,rfl⟩|⟨k2,rfl⟩
  .have:len=k:=by omega
   subst this;have:l=0:=by omega
   subst this;simp[Instr.sliceBounds]
  .have:l=0:=by omega
   subst this;rw[h2];simp[Instr.sliceBounds,Instr.sliceBound,asIntOf,h4]
 .rcases hh with ⟨rfl,rfl⟩|⟨k2,rfl⟩
  .have:len=k:=by omega
   subst this;rw[h1];simp[Instr.sliceBounds,Instr.sliceBound,asIntOf,h3]
  .rw[h1,h2];simp[Instr.sliceBounds,Instr.sliceBound,asIntOf,h3,h4]
theorem aiB{t et:TypeId}(ht:P.underlying t=some (.slice et))(x:Value)(lo hi mx:Option Value):(Instr.sliceAt t x lo hi mx).run P w=(Instr.slice t x lo hi mx).run P w:=by
 simp[Instr.sliceAt,run_underlying ht]
theorem aht{t:TypeId}(ht:P.underlying t=some .string)(x:Value)(lo hi mx:Option Value):(Instr.sliceAt t x lo hi mx).run P w=(Instr.slice t x lo hi mx).run P w:=by
 simp[Instr.sliceAt,run_underlying ht]
theorem Lg{t et:TypeId}{s:Sh}(ht:P.underlying t=some (.slice et))(hok:qK P et s=true){a:Option Addr}{len cap:Nat}{lo hi:Option Value}{l k:Nat}
  (hb:(Instr.sliceBounds true len cap lo hi none).run P w= .ok (l,k,cap) w):
  (Instr.sliceAt t (.slice a len cap) lo hi none).run P w= .ok (.slice (if cap=l then a else a.map (·.add (l*s.size))) (k-l) (cap-l)) w:=by
 rw[aiB ht];simp[Instr.slice,run_underlying ht,hb,LU hok]
theorem WQ(s:List UInt8)(l h:Nat):(⟨s.toArray⟩:ByteArray).extract l h=⟨((s.take h).drop l).toArray⟩:=by
 apply ByteArray.ext;simp[ByteArray.data_extract,List.take_drop];by_cases hlh:l<=h
 .rw[Nat.add_sub_cancel' hlh]
 .rw[sV (by simp;omega),sV (by simp;omega)]
theorem ajx(hrows:nk w B N ρ bs hv){pc:aM}(hp:aS ρ pc){ev:Ev}{a:Act}(hev:∀o k e,ev pc o 0=some (.dat (.int k) e)->a.eval o= .int k (e.eval ρ).toInt)
  {t:TypeId} {x:Option SX} {lo hi:Option Operand} {out:Out} {v:Value} {nv:Nat} (h:zU P ev (aY bs) pc t x lo hi=some out) (hx:∀y,x=some y->bB w N ρ bs hv y v) (ho:dB P ρ nv out.obs):
  out.cmds=[]/\out.nv=0/\kJ P w N ρ bs hv (Instr.sliceAt t v (lo.map a.eval) (hi.map a.eval) none) out.x:=by
 have bnd:∀ {o:Option Operand} {d e:E},qL ev pc d o=some e->Om ρ d (o.map a.eval) e:=by
  intro o d e h;unfold qL at h;cases o with
  |none=>simp at h;exact .inl ⟨rfl,h.symm⟩
  |some o=>
   simp only at h;split at h
   .rename_i k e' hi;simp at h;subst h;unfold nU at hi;split at hi
    .rename_i k' e'' he;simp at hi;obtain ⟨rfl,rfl⟩:=hi;exact .inr ⟨k',by simp[hev o _ _ he]⟩
    .simp at hi
   .simp at h
 unfold zU at h;split at h
 .rename_i e el ht hl;split at h
  .rename_i eh hh;simp at h;subst h;obtain ⟨l,k,h1,h2,h3,h4⟩:=Ht hp ho;have dO:=hx _ rfl;rw[oJ] at dO;subst dO;have hn:((E.eT e).eval ρ).toInt=((e.eval ρ).toStr.length:Int):=by simp[E.eval]
   rw[hn] at h4;have hb:=He (P:=P) (w:=w) false (bnd hl) (bnd hh) hn h1 h2 h3 (cap:=(e.eval ρ).toStr.length) (by omega);refine ⟨rfl,rfl,.string ⟨(((e.eval ρ).toStr.take k).drop l).toArray⟩,?_,by rw[oJ];simp[E.eval,h1,h2]⟩;rw[aht ht];have hsz:ByteArray.size ⟨(e.eval ρ).toStr.toArray⟩=(e.eval ρ).toStr.length:=by show (e.eval ρ).toStr.toArray.size=_;simp
   simp[Instr.slice,run_underlying ht,hsz,hb,WQ]
  .simp at h
 .rename_i et s e el ht hl;split at h
  .rename_i hok;split at h
   .rename_i eh hh;simp at h;subst h;obtain ⟨l,k,h1,h2,h3,h4⟩:=Ht hp ho;obtain ⟨ad,cap,g3,g4,g5,g6⟩:=Ce (hx _ rfl);simp only[iJ,and_true] at g3;subst g3;have hn:((ny e).eval ρ).toInt=((e.eval ρ).toList.length:Int):=by rw[BD];rfl
    rw[hn] at h4;have h4:k<=(e.eval ρ).toList.length:=by omega
    have hb:=He (P:=P) (w:=w) true (bnd hl) (bnd hh) hn h1 h2 h3 (cap:=cap) (by omega);have hlen:(((e.eval ρ).toList.take k).drop l).length=k-l:=by simp;omega
    refine ⟨rfl,rfl,_,Lg ht hok hb,?_⟩;refine ⟨[.slice (if cap=l then ad else ad.map (·.add (l*s.size))) (k-l) (cap-l)],⟨_,_,by simp only[E.eval,C.kU,h1,h2,bO,hlen];rfl,?_,?_,fun hne=>?_⟩,by simp[Sh.mk,Sh.isAgg],nN (by simp) (by simp) _⟩
    .simp only[E.eval,C.kU,h1,h2,bO,hlen];omega
    .omega
    .simp only[E.eval,C.kU,h1,h2,bO] at hne |-;have hkl:l<k:=by
      rcases Nat.lt_or_ge l k with h|h
      .exact h
      .exact absurd (jH (by omega)) hne
     obtain ⟨b,off,rfl,hN,hlt,hra⟩:=g6 (by intro h;rw[h] at h4;simp at h4;omega);rw[if_neg (by omega)];refine ⟨b,off+l*s.size,by simp[addr_add],hN,hlt,fun i c hc=>?_⟩;rw[uQ,mR] at hc;split at hc
     .obtain ⟨us,q1,q2,q3⟩:=hra _ c hc;exact ⟨us,q1,by rw[Nat.add_mul,<-oD] at q2;exact q2,q3⟩
     .cases hc
   .simp at h
  .simp at h
 .rename_i et r n el ht hl;split at h
  .rename_i s e eh hr hh;split at h
   .rename_i hok;simp at h;subst h;obtain ⟨l,k,h1,h2,h3,h4⟩:=Ht hp ho;obtain ⟨p,hin,hpp⟩:=oH hp hr;obtain ⟨hkn,dO⟩:=hx _ rfl;obtain ⟨rfl,hlen⟩:=dO _ _ p hin hpp;obtain ⟨dV,xs,hown,_,_⟩:=hrows.row r _ _ p hin hpp;rw[hlen] at h4;have h4:k<=(e.eval ρ).toList.length:=by omega
    obtain ⟨ad,cap,hv1,hv2,hv3,hv4⟩:∃ad cap,hv r= .slice ad (e.eval ρ).toList.length cap/\(e.eval ρ).toList.length<=cap/\cap<=maxLen/\(0<(e.eval ρ).toList.length->∃g,bH (hv r)=some g/\ad=some ⟨g,0,none⟩):=by
     rcases pQ hown with ⟨h5,h6,_⟩|⟨g,cap,h5,h6,h7,_,_,_⟩
     .exact ⟨none,0,by rw[h6];exact h5,by omega,by simp,fun h=>by omega⟩
     .exact ⟨_,cap,h5,h6,h7,fun _=>⟨g,by rw[h5];rfl,rfl⟩⟩
    have hb:=He (P:=P) (w:=w) true (bnd hl) (bnd hh) hlen h1 h2 h3 (cap:=cap) (by omega);refine ⟨rfl,rfl,_,by rw[hv1];exact Lg ht hok hb,hkn,fun s' e' p' hin' _=>?_⟩;rw[hin] at hin';simp at hin';obtain ⟨rfl,rfl,rfl⟩:=hin';refine ⟨l,k-l,h1,by simp[E.eval,nP,h1,h2];omega,by omega,_,_,rfl,by omega,by omega,fun hm=>?_⟩;obtain ⟨g,hg,rfl⟩:=hv4 (by omega);exact ⟨g,hg,by rw[if_neg (by omega)];simp[addr_add]⟩
   .simp at h
  .simp at h
 .rename_i et r off n el ht hl;split at h
  .rename_i s e eh hr hh;split at h
   .rename_i hok;simp at h;subst h;obtain ⟨l,k,h1,h2,h3,h4⟩:=Ht hp ho;obtain ⟨p,hin,hpp⟩:=oH hp hr;obtain ⟨hkn,dO⟩:=hx _ rfl;obtain ⟨o,m,ho',hm,hle,ad,cap,rfl,hmc,hcm,ha⟩:=dO _ _ p hin hpp;rw[hm] at h4;have hb:=He (P:=P) (w:=w) true (bnd hl) (bnd hh) hm h1 h2 h3 (cap:=cap) (by omega);refine ⟨rfl,rfl,_,Lg ht hok hb,hkn,fun s' e' p' hin' _=>?_⟩;rw[hin] at hin';simp at hin';obtain ⟨rfl,rfl,rfl⟩:=hin';refine ⟨o+l,k-l,by simp[E.eval,nP,h1,ho'],by simp[E.eval,nP,h1,h2];omega,by omega,_,_,rfl,by omega,by omega,fun hm=>?_⟩;obtain ⟨g,hg,rfl⟩:=ha (by omega);exact ⟨g,hg,by rw[if_neg (by omega)];simp[addr_add,Nat.add_mul]⟩
   .simp at h
  .simp at h
 .simp at h
theorem run_len_slice{t e:TypeId}(ht:P.underlying t=some (.slice e))(ty:TypeId)(a:Option Addr)(n c:Nat):(Builtin.len_ #[t] ty #[.slice a n c]).run P w= .ok (.int .i64 n) w:=by
 simp[Builtin.len_,run_underlying ht,goInt]
theorem alD(hrows:nk w B N ρ bs hv){pc:aM}(hp:aS ρ pc){t ty:TypeId}{x:Option SX}{out:Out}{v:Value}(h:CG P (aY bs) pc t x=some out)(hx:∀y,x=some y->bB w N ρ bs hv y v):
  out.cmds=[]/\out.nv=0/\out.obs=[]/\kJ P w N ρ bs hv (Builtin.len_ #[t] ty #[v]) out.x:=by
 unfold CG at h;split at h
 .rename_i e ht;simp at h;subst h;have dO:=hx _ rfl;rw[oJ] at dO;subst dO;have hsz:ByteArray.size ⟨(e.eval ρ).toStr.toArray⟩=(e.eval ρ).toStr.length:=by show (e.eval ρ).toStr.toArray.size=_;simp
  refine ⟨rfl,rfl,rfl,.int .i64 (e.eval ρ).toStr.length,?_,by rw[gu];simp[E.eval]⟩;simp[Builtin.len_,run_underlying ht,goInt,hsz]
 .rename_i s e et ht;simp at h;subst h;obtain ⟨ad,cap,g3,g4,g5,g6⟩:=Ce (hx _ rfl);simp only[iJ,and_true] at g3;subst g3;exact ⟨rfl,rfl,rfl,_,run_len_slice ht _ _ _ _,by rw[gu,BD];rfl⟩
 .rename_i et r n ht;split at h
  .rename_i y hr;simp at h;subst h;obtain ⟨s,e⟩:=y;obtain ⟨p,hin,hpp⟩:=oH hp hr;obtain ⟨hkn,dO⟩:=hx _ rfl;obtain ⟨rfl,hlen⟩:=dO _ _ p hin hpp;obtain ⟨dV,xs,hown,_,_⟩:=hrows.row r _ _ p hin hpp;rcases pQ hown with ⟨h5,h6,_⟩|⟨g,cap,h5,h6,h7,_,_,_⟩
   .exact ⟨rfl,rfl,rfl,_,by rw[h5];exact run_len_slice ht _ _ _ _,by rw[gu,hlen,h6]⟩
   .exact ⟨rfl,rfl,rfl,_,by rw[h5];exact run_len_slice ht _ _ _ _,by rw[gu,hlen]⟩
  .simp at h
 .rename_i et r off n ht;split at h
  .rename_i y hr;simp at h;subst h;obtain ⟨s,e⟩:=y;obtain ⟨p,hin,hpp⟩:=oH hp hr;obtain ⟨hkn,dO⟩:=hx _ rfl;obtain ⟨o,m,ho',hm,hle,ad,cap,rfl,hmc,hcm,ha⟩:=dO _ _ p hin hpp;exact ⟨rfl,rfl,rfl,_,run_len_slice ht _ _ _ _,by rw[gu,hm]⟩
  .simp at h
 .simp at h
theorem ao4{x y:Option SX}{out:Out}{v u:Value}{ts:Array TypeId}{ty:TypeId}(h:yR .l9 x y=some out)(hx:∀z,x=some z->bB w N ρ bs hv z v)(hy:∀z,y=some z->bB w N ρ bs hv z u):
  out.cmds=[]/\out.nv=0/\out.obs=[]/\kJ P w N ρ bs hv (Builtin.min_ ts ty #[v,u]) out.x:=by
 unfold yR at h;split at h
 .rename_i k a k' b;split at h
  .rename_i hk;subst hk;simp at h;subst h;have h1:=hx _ rfl;have h2:=hy _ rfl;rw[gu] at h1 h2;subst h1 h2;refine ⟨rfl,rfl,rfl,_,run_min_int2 _ _ _ _ _ _ _,?_⟩;rw[gu];congr 1
   simp only[E.eval,C.toInt_int];split<;>omega
  .simp at h
 .simp at h
theorem ao5{x y:Option SX}{out:Out}{v u:Value}{ts:Array TypeId}{ty:TypeId}(h:yR .uJ x y=some out)(hx:∀z,x=some z->bB w N ρ bs hv z v)(hy:∀z,y=some z->bB w N ρ bs hv z u):
  out.cmds=[]/\out.nv=0/\out.obs=[]/\kJ P w N ρ bs hv (Builtin.max_ ts ty #[v,u]) out.x:=by
 unfold yR at h;split at h
 .rename_i k a k' b;split at h
  .rename_i hk;subst hk;simp at h;subst h;have h1:=hx _ rfl;have h2:=hy _ rfl;rw[gu] at h1 h2;subst h1 h2;refine ⟨rfl,rfl,rfl,_,run_max_int2 _ _ _ _ _ _ _,?_⟩;rw[gu];congr 1
   simp only[E.eval,C.toInt_int];split<;>omega
  .simp at h
 .simp at h
theorem Ih{k:IntKind}:∀ {l:List C} {xs:List Value},bF w N (.int k) xs l↔xs=l.map fun c=> .int k c.toInt
 | [],xs=>by simp[bF]
 |c::l,xs=>by
  simp only[bF,Ih (l:=l),Rd,eZ];constructor
  .rintro ⟨u,r,rfl,rfl,rfl⟩;rfl
  .rintro rfl;exact ⟨_,_,rfl,rfl,rfl⟩
theorem foldl_push:∀(l:List Int) (s:List UInt8),l.foldl (fun r n=>r.push (UInt8.ofNat n.toNat)) (⟨s.toArray⟩:ByteArray)=⟨(s++l.map fun n=>UInt8.ofNat n.toNat).toArray⟩
 | [],s=>by simp
 |n::l,s=>by
  have h:(⟨s.toArray⟩:ByteArray).push (UInt8.ofNat n.toNat)=⟨(s++ [UInt8.ofNat n.toNat]).toArray⟩:=by
   apply ByteArray.ext;simp[ByteArray.push]
  rw[AP,h,foldl_push l];simp
theorem amf{v:Value}{c:C}(h:Rd w N (.sl (.int .u8)) [v] c):(Conv.bytesToString v).run P w= .ok (.string ⟨(bytesOf c.toList).toArray⟩) w:=by
 obtain ⟨a,cap,h1,h2,h3,h4⟩:=h;simp only[iJ,and_true] at h1;subst h1;by_cases hne:c.toList=[]
 .cases a with
  |none=>simp[Conv.bytesToString,hne,bytesOf];rfl
  |some a=>
   have hr:=run_bytesToString (P:=P) w a 0 cap [] (by simp[loadCells,loadCellsFrom]);rw[hne];exact hr
 .obtain ⟨b,off,rfl,_,_,hra⟩:=h4 hne;obtain ⟨xs,hx,hc⟩:=qR.row (s:= .int .u8) hra;rw[Ih] at hx;have hl:(loadCells ⟨b,off,none⟩ c.toList.length).run P w= .ok ((c.toList.map C.toInt).map (Value.int .u8)).toArray w:=by
   have:=run_loadCells_list (P:=P) w ⟨b,off,none⟩ xs (fun j v hv=>by rw[addr_add];exact hc j v hv);rw[hx] at this;simpa [Function.comp_def] using this
  have hr:=run_bytesToString (P:=P) w ⟨b,off,none⟩ c.toList.length cap (c.toList.map C.toInt) hl;rw[hr];have e:=foldl_push (c.toList.map C.toInt) [];simp only[fJ] at e;rw[show ByteArray.empty=(⟨([]:List UInt8).toArray⟩:ByteArray) from rfl,e];simp[bytesOf]
def PV(P:Program)(w:World)(N:Nat->Prop)(ρ:List C)(bs:List aG)(hv:Nat->Value)(m:Sem Value)(x:SX):Prop:=
 ∃v w',m.run P w= .ok v w'/\Below w.heap.size w w'/\bB w' N ρ bs hv x v
theorem kJ.PS{m:Sem Value}{x:SX}(h:kJ P w N ρ bs hv m x):PV P w N ρ bs hv m x:=let ⟨v,h1,h2⟩:=h;⟨v,w,h1,Below.refl _ _,h2⟩
theorem Y3{et:TypeId}(s:List UInt8)(hs:(s.length:Int)<=9223372036854775807)(hN:∀b,w.heap.size<=b->N b):∃v w',(Conv.stringToBytes et ⟨s.toArray⟩).run P w= .ok v w'/\Below w.heap.size w w'/\Rd w' N (.sl (.int .u8)) [v] (.ls (ofBytes s)):=by
 have hge:=grownCap_ge w s.length 0 et;have hcm:grownCap w s.length 0 et<=maxLen:=grownCap_le_maxLen w s.length 0 et (by simp only[maxLen];omega);have hsz:ByteArray.size ⟨s.toArray⟩=s.length:=by show s.toArray.size=_;simp
 refine ⟨.slice (some ⟨w.heap.size,0,none⟩) s.length (grownCap w s.length 0 et),
  (w.drew.alloc (.cells ((s.map fun b=>Value.int .u8 (b.toNat:Int)).toArray++Array.replicate (grownCap w s.length 0 et-s.length) (.int .u8 0)) et)).freeze ⟨w.heap.size,grownCap w s.length 0 et,none⟩ 1,?_,?_,?_⟩
 .have hgc:(Question.appendCap s.length 0 et).cut (w.tape w.drawn (Question.appendCap s.length 0 et))=grownCap w s.length 0 et:=rfl;have hsh:∀(arr:Array Value),(w.drew.alloc (.cells arr et)).shape? w.heap.size=some (et,arr.size):=fun arr=>by
   have:=heap_alloc_new w.drew (.cells arr et);rw[heap_drew] at this;unfold World.shape?;rw[this]
  have hcs:s.length+(grownCap w s.length 0 et-s.length)=grownCap w s.length 0 et:=by omega
  simp[Conv.stringToBytes,hsz,Question.forced,newRow,markStringish,hgc,hsh,hcs]
 .refine ⟨rfl,rfl,rfl,by simp[World.freeze],fun k hk=>?_⟩;simp only[World.freeze];rw[if_neg (by omega)];simp only[Array.getElem?_modify];rw[if_neg (by omega)];exact Below.heap_alloc w.drew _ k hk
 .have hlen:(ofBytes s).length=s.length:=by simp[ofBytes]
  refine ⟨_,_,by simp only[C.kU,hlen],by simp only[C.kU,hlen];exact hge,hcm,fun _=>⟨w.heap.size,0,rfl,hN _ (aI _),by simp[World.freeze],?_⟩⟩;have hhp:=heap_alloc_new w.drew (.cells ((s.map fun b=>Value.int .u8 (b.toNat:Int)).toArray++Array.replicate (grownCap w s.length 0 et-s.length) (.int .u8 0)) et);rw[heap_drew] at hhp;refine qR.of_row (s:= .int .u8) (xs:=s.map fun b=>Value.int .u8 (b.toNat:Int)) ?_ fun j u hu=>?_
  .rw[Ih];simp[ofBytes,Function.comp_def]
  .have hj:j<s.length:=by have:=(dF.1 hu).1;simpa using this
   have hh:∀fr,((w.drew.alloc (.cells ((s.map fun b=>Value.int .u8 (b.toNat:Int)).toArray++Array.replicate (grownCap w s.length 0 et-s.length) (.int .u8 0)) et)).freeze ⟨w.heap.size,grownCap w s.length 0 et,none⟩ 1).heap[w.heap.size]?=some fr->
     ∃f,fr= .cells ((s.map fun b=>Value.int .u8 (b.toNat:Int)).toArray++Array.replicate (grownCap w s.length 0 et-s.length) (.int .u8 0)) et f:=by
    intro fr hfr;simp only[World.freeze] at hfr;rw[if_neg (by omega)] at hfr;simp only[Array.getElem?_modify,if_true,hhp,uN,bQ] at hfr;exact ⟨_,hfr.symm⟩
   have hex:∃fr,((w.drew.alloc (.cells ((s.map fun b=>Value.int .u8 (b.toNat:Int)).toArray++Array.replicate (grownCap w s.length 0 et-s.length) (.int .u8 0)) et)).freeze ⟨w.heap.size,grownCap w s.length 0 et,none⟩ 1).heap[w.heap.size]?=some fr:=
    ⟨_,Gc (by simp[World.freeze])⟩
   obtain ⟨fr,hfr⟩:=hex;obtain ⟨f,rfl⟩:=hh fr hfr;rw[cell_of_row _ _ _ _ et f hfr,iI];simp only[kM] at hu;simp[Array.getElem?_append,hj];simpa [iK hj] using hu
theorem akU(hrows:nk w B N ρ bs hv){pc:aM}(hp:aS ρ pc){src dst:TypeId}{x:Option SX}{out:Out}{v:Value}{nv:Nat}(h:Ct P (aY bs) pc src dst x=some out)
  (hx:∀y,x=some y->bB w N ρ bs hv y v) (ho:dB P ρ nv out.obs) (hN:∀b,w.heap.size<=b->N b):
  out.cmds=[]/\out.nv=0/\PV P w N ρ bs hv (convert src dst v) out.x:=by
 unfold Ct at h;split at h
 .rename_i d k k' e hs hd;simp at h;subst h;have dO:=hx _ rfl;rw[gu] at dO;subst dO;refine ⟨rfl,rfl,kJ.PS ⟨.int k (k.wrap (e.eval ρ).toInt),?_,by rw[gu];rfl⟩⟩;simp[convert,run_underlying hs,run_underlying hd,Conv.intToInt]
 .rename_i e hs hd;simp at h;subst h;have dO:=hx _ rfl;rw[oJ] at dO;subst dO;refine ⟨rfl,rfl,kJ.PS ⟨_,?_,by rw[oJ]⟩⟩;simp[convert,run_underlying hs,run_underlying hd]
 .rename_i t x hs hd;split at h
  .rename_i e f ht hdat;simp at h;subst h;have dO:=Ce (uZ hrows hp hdat (hx _ rfl));obtain ⟨a,cap,h1,_⟩:=id dO;simp only[iJ,and_true] at h1;refine ⟨rfl,rfl,kJ.PS ⟨.string ⟨(bytesOf (e.eval ρ).toList).toArray⟩,?_,by rw[oJ];rfl⟩⟩;rw[<-amf (P:=P) dO,h1,run_convert_bytes_string w src dst t _ _ _ hs ht hd]
  .simp at h
 .rename_i t e hs hd;split at h
  .rename_i ht;simp at h;subst h;have dO:=hx _ rfl;rw[oJ] at dO;subst dO;have h0:=ho.1 hp;simp[E.eval,IntKind.max,IntKind.signed,IntKind.bits] at h0;obtain ⟨v,w',h1,h2,h3⟩:=Y3 (P:=P) (w:=w) (N:=N) (et:=t) (e.eval ρ).toStr h0.2 hN;refine ⟨rfl,rfl,v,w',?_,h2,[v],h3,by simp[Sh.mk,Sh.isAgg],nN (by simp) (by simp) _⟩;simp[convert,run_underlying hs,run_underlying hd,run_underlying ht,h1]
  .simp at h
 .simp at h
end
end Go.Vc
