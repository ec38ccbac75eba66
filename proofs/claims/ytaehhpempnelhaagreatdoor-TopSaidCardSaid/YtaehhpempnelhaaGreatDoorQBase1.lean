/-
  My own general texts, one behind the other: a generator of conditions over the model, with its proof, and plain lemmas. No condition on the program.
-/
import Derived.Lib.MapLaws
import Derived.WalkKit
import Derived.Deep.LoopGhost
import Derived.Orders
import Derived.OwnWalkIn
import Derived.Maps.OwnIn
import Derived.RangeFuncOwn
namespace Go.Plain
def Lu(x:UInt8):Bool:=decide (97<=x.toNat/\x.toNat<=122\/65<=x.toNat/\x.toNat<=90\/48<=x.toNat/\x.toNat<=57\/x.toNat=45\/x.toNat=95)
def IB(s:List UInt8):Bool:=decide (1<=s.length/\s.length<=16)&&s.all Lu
end Go.Plain
namespace Go.Plain
open Go.Lib (decodeL decodeN)
def bQ(l:List UInt8):Nat:=(decodeL l).2
def stray(l:List UInt8):Bool:=decide ((decodeL l).1=65533)&&decide ((decodeL l).2=1)
theorem Bb(l:List UInt8):1<=bQ l:=Lib.decodeL_width l
theorem Db{l:List UInt8}(h:l≠[]):bQ l<=l.length:=Lib.decodeL_le l h
inductive Dec (l:List UInt8):Prop
 |ascii (x:UInt8) (t:List UInt8) (hl:l=x::t) (hx:x.toNat<128) (h:decodeL l=(x.toNat,1))
 |bad (x:UInt8) (t:List UInt8) (hl:l=x::t) (hx:128<=x.toNat) (h:decodeL l=(65533,1))
 |many (c t:List UInt8) (hl:l=c++t) (hc:∀x∈c,128<=x.toNat) (h2:2<=c.length) (hw:(decodeL l).2=c.length) (hr:128<=(decodeL l).1) (h:∀r,decodeL (c++r)=decodeL l)
theorem azj{l:List UInt8}(hne:l≠[]):∃x t,l=x::t:=by cases l with|nil=>exact absurd rfl hne|cons x t=>exact⟨x,t,rfl⟩
theorem dec{l:List UInt8}(hne:l≠[]):Dec l:=by
 have hl:0<l.length:=List.length_pos_iff.2 hne;have e:=Lib.decodeL_N l;have k0:=(l.getD 0 0).toNat_lt;have k1:=(l.getD 1 0).toNat_lt;have k2:=(l.getD 2 0).toNat_lt;have k3:=(l.getD 3 0).toNat_lt;obtain⟨x,t,hx⟩:=azj hne;have h0:l.getD 0 0=x:=by rw[hx];rfl
 rcases Lib.decodeN_shape l.length (l.getD 0 0).toNat (l.getD 1 0).toNat (l.getD 2 0).toNat (l.getD 3 0).toNat with⟨c,e'⟩|⟨c1,c2,c3,cv,e'⟩|⟨c1,c2,c3,c4,cv,cs,e'⟩|⟨c1,c2,c3,c4,c5,cv,cw,e'⟩|e'
 .rw[e']at e;exact .ascii x t hx (by rw[<-h0];exact c) (by rw[e,h0])
 .have hw:(decodeL l).2=2:=by rw[e,e']
  have ht:l.take 2=[l.getD 0 0,l.getD 1 0]:=Lib.takeB l c2;refine .many (l.take 2) (l.drop 2) (List.take_append_drop 2 l).symm ?_ ?_ ?_ ?_ ?_
  .rw[ht];intro y hy;simp only[List.mem_cons,List.not_mem_nil,or_false]at hy;rcases hy with rfl|rfl<;>omega
  .rw[ht];simp
  .rw[ht,hw];rfl
  .rw[e,e'];simp only;omega
  intro r;rw[ht,e,e',Lib.decodeL_N];simp only[List.cons_append,List.nil_append,List.getD_cons_zero,List.getD_cons_succ,List.length_cons];unfold decodeN;rw[if_neg (by omega),if_pos ⟨c1,by omega,c3⟩,if_pos cv]
 .have hw:(decodeL l).2=3:=by rw[e,e']
  have ht:l.take 3=[l.getD 0 0,l.getD 1 0,l.getD 2 0]:=Lib.takeC l c2;refine .many (l.take 3) (l.drop 3) (List.take_append_drop 3 l).symm ?_ ?_ ?_ ?_ ?_
  .rw[ht];intro y hy;simp only[List.mem_cons,List.not_mem_nil,or_false]at hy;rcases hy with rfl|rfl|rfl<;>omega
  .rw[ht];simp
  .rw[ht,hw];rfl
  .rw[e,e'];simp only;omega
  intro r;rw[ht,e,e',Lib.decodeL_N];simp only[List.cons_append,List.nil_append,List.getD_cons_zero,List.getD_cons_succ,List.length_cons];unfold decodeN;rw[if_neg (by omega),if_neg (by omega),if_pos ⟨c1,⟨by omega,c3⟩,by omega,c4⟩,if_pos ⟨cv,by omega⟩]
 .have hw:(decodeL l).2=4:=by rw[e,e']
  have ht:l.take 4=[l.getD 0 0,l.getD 1 0,l.getD 2 0,l.getD 3 0]:=Lib.takeD l c2;refine .many (l.take 4) (l.drop 4) (List.take_append_drop 4 l).symm ?_ ?_ ?_ ?_ ?_
  .rw[ht];intro y hy;simp only[List.mem_cons,List.not_mem_nil,or_false]at hy;rcases hy with rfl|rfl|rfl|rfl<;>omega
  .rw[ht];simp
  .rw[ht,hw];rfl
  .rw[e,e'];simp only;omega
  .intro r;rw[ht,e,e',Lib.decodeL_N];simp only[List.cons_append,List.nil_append,List.getD_cons_zero,List.getD_cons_succ,List.length_cons];unfold decodeN;rw[if_neg (by omega),if_neg (by omega),if_neg (by omega),if_pos ⟨c1,⟨by omega,c3⟩,⟨by omega,c4⟩,by omega,c5⟩,if_pos ⟨cv,by omega⟩]
 by_cases hx2:x.toNat<128
 .refine .ascii x t hx hx2 ?_;rw[e,h0];simp[decodeN,hx2]
 exact .bad x t hx (by omega) (by rw[e,e'])
def chunks(l:List UInt8):List (List UInt8):=
 if h:l=[]then []else l.take (bQ l)::chunks (l.drop (bQ l))
termination_by l.length
decreasing_by
 have:=Bb l;have:=List.length_pos_iff.2 h;rw[List.length_drop];omega
theorem zf:chunks []=[]:=by rw[chunks,dif_pos rfl]
theorem A8{l:List UInt8}(h:l≠[]):chunks l=l.take (bQ l)::chunks (l.drop (bQ l)):=by rw[chunks,dif_neg h]
theorem O4{P:List UInt8->Prop}(nil:P [])(step:∀l,l≠[]->P (l.drop (bQ l))->P l)(l:List UInt8):P l:=by
 have h:∀(n:Nat) (l:List UInt8),l.length<=n->P l:=by
  intro n;induction n with
  |zero=>intro l hl;obtain rfl:l=[]:=List.length_eq_zero_iff.1 (by omega);exact nil
  |succ n ih=>
   intro l hl;by_cases he:l=[]
   .rw[he];exact nil
   .have:=Bb l;exact step l he (ih _ (by rw[List.length_drop];omega))
 exact h _ l (Nat.le_refl _)
theorem ad1(l:List UInt8):(chunks l).flatten=l:=by
 induction l using O4 with
 |nil=>rw[zf];rfl
 |step l h ih=>rw[A8 h,List.flatten_cons,ih,List.take_append_drop]
def whole(c:List UInt8):Prop:=c≠[]/\stray c=false/\bQ c=c.length
inductive Chunk (c:List UInt8):Prop
 |ascii (x:UInt8) (hc:c=[x]) (hx:x.toNat<128)
 |bad (x:UInt8) (hc:c=[x]) (hx:128<=x.toNat)
 |many (h2:2<=c.length) (hc:∀x∈c,128<=x.toNat) (hw:whole c) (hr:128<=(decodeL c).1)
theorem GV(x:UInt8)(t:List UInt8)(hx:x.toNat<128):decodeL (x::t)=(x.toNat,1):=by rw[Lib.decodeL_N];exact Lib.decodeN_ascii _ _ _ _ _ (by simpa using hx)
theorem aic(x:UInt8)(hx:128<=x.toNat):decodeL [x]=(65533,1):=by
 rw[Lib.decodeL_N];exact Lib.decodeN_alone _ _ _ _ _ (by simpa using hx) (.inl (by simp))
theorem au0(x:UInt8)(t:List UInt8)(hx:x.toNat<128):bQ (x::t)=1:=by unfold bQ;rw[GV x t hx]
theorem ads(x:UInt8)(t:List UInt8)(hx:x.toNat<128):stray (x::t)=false:=by
 unfold stray;rw[GV x t hx];have:¬x.toNat=65533:=by omega
 simp[this]
theorem JQ{l:List UInt8}(h:l≠[]):Chunk (l.take (bQ l))/\decodeL (l.take (bQ l))=decodeL l:=by
 cases dec h with
 |ascii x t hl hx hd=>
  have e:l.take (bQ l)=[x]:=by unfold bQ;rw[hd,hl];rfl
  rw[e];exact⟨.ascii x rfl hx,by rw[hd,GV x [] hx]⟩
 |bad x t hl hx hd=>
  have e:l.take (bQ l)=[x]:=by unfold bQ;rw[hd,hl];rfl
  rw[e];exact⟨.bad x rfl hx,by rw[hd,aic x hx]⟩
 |many c t hl hc h2 hw hr hd=>
  have e:l.take (bQ l)=c:=by unfold bQ;rw[hw,hl,List.take_left]
  have e2:decodeL c=decodeL l:=by have:=hd [];rwa[List.append_nil]at this
  rw[e];refine⟨.many h2 hc ⟨by intro h;rw[h]at h2;simp at h2,?_,?_⟩ (by rw[e2];exact hr),e2⟩
  .unfold stray;rw[e2,hw];have:¬c.length=1:=by omega
   simp[this]
  unfold bQ;rw[e2,hw]
theorem Td{l:List UInt8}:∀c∈chunks l,Chunk c:=by
 induction l using O4 with
 |nil=>rw[zf];simp
 |step l h ih=>
  rw[A8 h];intro c hc;rcases List.mem_cons.1 hc with rfl|hc
  .exact (JQ h).1
  exact ih c hc
theorem avJ{c:List UInt8}(h:whole c)(r:List UInt8):decodeL (c++r)=decodeL c:=by
 obtain⟨hne,hs,hw⟩:=h;cases dec hne with
 |ascii x t hl hx hd=>
  rw[hd,hl,List.cons_append,GV x _ hx]
 |bad x t hl hx hd=>unfold stray at hs;rw[hd]at hs;simp at hs
 |many c' t hl hc h2 hw' hr hd=>
  have ht:t=[]:=by
   have:=congrArg List.length hl;unfold bQ at hw;rw[List.length_append]at this;exact List.length_eq_zero_iff.1 (by omega)
  rw[ht,List.append_nil]at hl;rw[<-hl]at hd;exact hd r
theorem RA{c:List UInt8}(h:whole c)(r:List UInt8):chunks (c++r)=c::chunks r:=by
 have hne:c++r≠[]:=by intro he;exact h.1 (List.append_eq_nil_iff.1 he).1
 have hw:bQ (c++r)=c.length:=by unfold bQ;rw[avJ h r];exact h.2.2
 rw[A8 hne,hw,List.take_left,List.drop_left]
theorem abX:∀{ks:List (List UInt8)},(∀k∈ks,whole k)->∀r,chunks (ks.flatten++r)=ks++chunks r
 | [],_,r=>by simp
 |k::ks,h,r=>by
  rw[List.flatten_cons,List.append_assoc,RA (h k (by simp)),abX (fun k hk=>h k (by simp[hk])) r,List.cons_append]
theorem Gu(x:UInt8)(hx:x.toNat<128):whole [x]:=⟨by simp,ads x [] hx,by rw[au0 x [] hx];rfl⟩
theorem ae8(x:UInt8)(hx:128<=x.toNat):stray [x]=true:=by unfold stray;rw[aic x hx];rfl
theorem aup{c:List UInt8}(h:Chunk c)(hs:stray c=false):whole c:=by
 cases h with
 |ascii x hc hx=>rw[hc];exact Gu x hx
 |bad x hc hx=>rw[hc,ae8 x hx]at hs;cases hs
 |many h2 hc hw hr=>exact hw
def jW(c:List UInt8):Bool:=decide (32<=(decodeL c).1)&&(decide ((decodeL c).1≠127)&& !stray c)
def wX(l:List UInt8):Bool:=(chunks l).all jW
def oo(n:Nat):UInt8:=UInt8.ofNat (if n<10 then 48+n else 87+n)
def qk(c:List UInt8):List (List UInt8):=
 if jW c then(if c=[34]\/c=[92]then [[92],c]else [c])
 else [[92],[oo ((c.getD 0 0).toNat/16)],[oo ((c.getD 0 0).toNat%16)]]
def qc(c:List UInt8):List UInt8:=(qk c).flatten
def ED(l:List UInt8):List (List UInt8):=[34]::((chunks l).flatMap qk++ [[34]])
def qs(l:List UInt8):List UInt8:=34::((chunks l).flatMap qc++ [34])
theorem Zw{α β:Type}(f:α->List (List β)):∀l:List α,(l.flatMap f).flatten=l.flatMap fun x=>(f x).flatten
 | []=>rfl
 |x::l=>by simp[Zw f l]
theorem ayZ(l:List UInt8):qs l=(ED l).flatten:=by
 unfold qs ED qc;rw[List.flatten_cons,List.flatten_append,Zw];rfl
theorem Ow(n:Nat)(h:n<16):48<=(oo n).toNat/\(oo n).toNat<103/\oo n≠34/\oo n≠92/\oo n≠32:=by
 have:∀n:Fin 16,48<=(oo n.1).toNat/\(oo n.1).toNat<103/\oo n.1≠34/\oo n.1≠92/\oo n.1≠32:=by decide
 exact this ⟨n,h⟩
def oZ(x:UInt8):Nat:=if 48<=x.toNat/\x.toNat<=57 then x.toNat-48 else if 97<=x.toNat/\x.toNat<=102 then x.toNat-87 else 16
theorem Nu(n:Nat)(h:n<16):oZ (oo n)=n:=by
 have:∀n:Fin 16,oZ (oo n.1)=n.1:=by decide
 exact this ⟨n,h⟩
theorem SB(x:UInt8)(hx:x.toNat<128):jW [x]=true↔32<=x.toNat/\x.toNat≠127:=by
 unfold jW;rw[GV x [] hx,ads x [] hx];simp
theorem axC{c:List UInt8}(hw:whole c)(hr:128<=(decodeL c).1):jW c=true:=by
 unfold jW;rw[hw.2.1];have h1:32<=(decodeL c).1:=by omega
 have h2:(decodeL c).1≠127:=by omega
 simp[h1,h2]
theorem azb(x:UInt8)(hx:128<=x.toNat):jW [x]=false:=by
 unfold jW;rw[ae8 x hx];simp
theorem axD{c:List UInt8}(h:Chunk c)(ho:jW c=true):whole c:=by
 refine aup h ?_;unfold jW at ho;simp only[Bool.and_eq_true,Bool.not_eq_true']at ho;exact ho.2.2
theorem ahA{c:List UInt8}(h:Chunk c)(ho:jW c=false):∃x,c=[x]:=by
 cases h with
 |ascii x hc hx=>exact⟨x,hc⟩
 |bad x hc hx=>exact⟨x,hc⟩
 |many h2 hc hw hr=>rw[axC hw hr]at ho;cases ho
theorem ay1{c:List UInt8}(h:Chunk c):∀k∈qk c,whole k/\jW k=true:=by
 intro k hk;unfold qk at hk;have a92:whole [(92:UInt8)]/\jW [(92:UInt8)]=true:=⟨Gu 92 (by decide),(SB 92 (by decide)).2 ⟨by decide,by decide⟩⟩;split at hk
 .rename_i ho;have hw:=axD h ho;split at hk
  .rcases List.mem_cons.1 hk with rfl|hk
   .exact a92
   rw[List.mem_singleton]at hk;subst hk;exact⟨hw,ho⟩
  .rw[List.mem_singleton]at hk;subst hk;exact⟨hw,ho⟩
 have hx:∀n,n<16->whole [oo n]/\jW [oo n]=true:=fun n hn=>by
  obtain⟨a,b,_⟩:=Ow n hn;exact⟨Gu _ (by omega),(SB _ (by omega)).2 ⟨by omega,by omega⟩⟩
 have hb:=(c.getD 0 0).toNat_lt;rcases List.mem_cons.1 hk with rfl|hk
 .exact a92
 rcases List.mem_cons.1 hk with rfl|hk
 .exact hx _ (by omega)
 rw[List.mem_singleton]at hk;subst hk;exact hx _ (by omega)
theorem aqE(l:List UInt8):∀k∈ED l,whole k/\jW k=true:=by
 have a34:whole [(34:UInt8)]/\jW [(34:UInt8)]=true:=⟨Gu 34 (by decide),(SB 34 (by decide)).2 ⟨by decide,by decide⟩⟩;intro k hk;unfold ED at hk;rcases List.mem_cons.1 hk with rfl|hk
 .exact a34
 rcases List.mem_append.1 hk with hk|hk
 .obtain ⟨c,hc,hk⟩:=List.mem_flatMap.1 hk;exact ay1 (Td c hc) k hk
 rw[List.mem_singleton]at hk;subst hk;exact a34
theorem awP(l r:List UInt8):chunks (qs l++r)=ED l++chunks r:=by
 rw[ayZ];exact abX (fun k hk=>(aqE l k hk).1) r
def lo:List UInt8->Option (List UInt8)
 | []=>some []
 |x::t=>
  if x=34 then none
  else if x=92 then
   match t with
   | []=>none
   |y::u=>
    if y=34\/y=92 then(lo u).map (y::·)
    else match u with
     | []=>none
     |z::v=>if oZ y<16/\oZ z<16 then(lo v).map (UInt8.ofNat (16*oZ y+oZ z)::·)else none
  else(lo t).map (x::·)
theorem TM(x:UInt8)(t:List UInt8)(h1:x≠34)(h2:x≠92):lo (x::t)=(lo t).map (x::·):=by rw[lo.eq_def];simp[h1,h2]
theorem O1(y:UInt8)(u:List UInt8)(h:y=34\/y=92):lo (92::y::u)=(lo u).map (y::·):=by
 rw[lo.eq_def];simp[h]
theorem ai4(y z:UInt8)(v:List UInt8)(h:¬(y=34\/y=92))(h1:oZ y<16)(h2:oZ z<16):lo (92::y::z::v)=(lo v).map (UInt8.ofNat (16*oZ y+oZ z)::·):=by
 rw[lo.eq_def];simp[h,h1,h2]
theorem agD:∀(c r:List UInt8),(∀x∈c,128<=x.toNat)->lo (c++r)=(lo r).map (c++·)
 | [],r,_=>by simp
 |x::c,r,h=>by
  have hx:=h x (by simp);rw[List.cons_append,TM x _ (by rintro rfl;simp at hx) (by rintro rfl;simp at hx),agD c r (fun y hy=>h y (by simp[hy])),Option.map_map];rfl
theorem aBr{c:List UInt8}(h:Chunk c)(r:List UInt8):lo (qc c++r)=(lo r).map (c++·):=by
 unfold qc qk;by_cases ho:jW c=true
 .rw[if_pos ho];by_cases he:c=[34]\/c=[92]
  .rw[if_pos he];rcases he with rfl|rfl
   .exact O1 34 r (.inl rfl)
   exact O1 92 r (.inr rfl)
  .rw[if_neg he];simp only[List.flatten_cons,List.flatten_nil,List.append_nil];cases h with
   |ascii x hc hx=>
    subst hc;simp only[List.cons.injEq,and_true,not_or]at he;exact TM x r he.1 he.2
   |bad x hc hx=>rw[hc,azb x hx]at ho;cases ho
   |many h2 hc hw hr=>exact agD c r hc
 rw[if_neg ho];rw[Bool.not_eq_true]at ho;obtain⟨x,rfl⟩:=ahA h ho;have hb:=x.toNat_lt;obtain⟨_,_,n1,n2,_⟩:=Ow (x.toNat/16) (by omega);simp only[List.flatten_cons,List.flatten_nil,List.append_nil,List.cons_append,List.nil_append,List.getD_cons_zero];rw[ai4 _ _ _ (by simp[n1,n2]) (by rw[Nu _ (by omega)];omega) (by rw[Nu _ (by omega)];omega),Nu _ (by omega),Nu _ (by omega)];congr 2
 funext l
 congr 1
 have:16*(x.toNat/16)+x.toNat%16=x.toNat:=by omega
 rw[this];simp
theorem ai3:∀(cs:List (List UInt8)) (r:List UInt8),(∀c∈cs,Chunk c)->lo (cs.flatMap qc++r)=(lo r).map (cs.flatten++·)
 | [],r,_=>by simp
 |c::cs,r,h=>by
  rw[List.flatMap_cons,List.append_assoc,aBr (h c (by simp)),ai3 cs r (fun k hk=>h k (by simp[hk])),Option.map_map];congr 1
  funext l
  simp
theorem axK(l:List UInt8):lo ((chunks l).flatMap qc)=some l:=by
 have:=ai3 (chunks l) [] (fun c hc=>Td c hc);rw[List.append_nil]at this;rw[this,ad1];simp[lo]
def inner(s:List UInt8):List UInt8:=(s.drop 1).take (s.length-2)
theorem axQ(l:List UInt8):inner (qs l)=(chunks l).flatMap qc:=by
 unfold inner qs;simp
theorem ay0(l:List UInt8):2<=(qs l).length/\(qs l).getD 0 0=34/\(qs l).getD ((qs l).length-1) 0=34:=by
 unfold qs;refine⟨by simp,rfl,?_⟩;simp[List.getD_eq_getElem?_getD]
def mI(s:List UInt8):Option (List UInt8):=
 if 2<=s.length/\s.getD 0 0=34/\s.getD (s.length-1) 0=34 then
  match lo (inner s)with
  |some o=>if qs o=s then some o else none
  |none=>none
 else none
theorem Ug(l:List UInt8):mI (qs l)=some l:=by
 unfold mI;rw[if_pos (ay0 l),axQ,axK];simp
theorem avM{s o:List UInt8}:mI s=some o↔qs o=s:=by
 constructor
 .intro h;unfold mI at h;split at h
  .split at h
   .split at h
    .cases h;assumption
    .cases h
   cases h
  .cases h
 rintro rfl;exact Ug o
def wd(q t:Bool)(cur:List UInt8):List (List UInt8)->Option (List (List UInt8))
 | []=>if q=true\/cur=[]then none else some [cur]
 |c::cs=>
  if t then wd q false (cur++c) cs
  else if c=[34]then wd (!q) false (cur++c) cs
  else if q then wd q (decide (c=[92])) (cur++c) cs
  else if c=[32]then(if cur=[]then none else(wd false false [] cs).map (cur::·))
  else wd q false (cur++c) cs
def nE(s:List UInt8):Option (List (List UInt8)):=wd false false [] (chunks s)
def jC:List (List UInt8)->List UInt8
 | []=> []
 | [w]=>w
 |w::v::l=>w++32::jC (v::l)
theorem Ud:∀(cs:List (List UInt8)) (q t:Bool) (cur:List UInt8) (ws:List (List UInt8)),wd q t cur cs=some ws->jC ws=cur++cs.flatten/\ws≠[]/\∀w∈ws,w≠[]
 | [],q,t,cur,ws,h=>by
  unfold wd at h;split at h
  .cases h
  next hn=>cases h;simp only[not_or]at hn;exact⟨by simp[jC],by simp,by simpa using hn.2⟩
 |c::cs,q,t,cur,ws,h=>by
  have go:∀q t,wd q t (cur++c) cs=some ws->jC ws=cur++(c::cs).flatten/\ws≠[]/\∀w∈ws,w≠[]:=fun q t hq=>by
   have:=Ud cs q t (cur++c) ws hq;rw[List.flatten_cons,<-List.append_assoc];exact this
  unfold wd at h;split at h
  .exact go _ _ h
  split at h
  .exact go _ _ h
  split at h
  .exact go _ _ h
  split at h
  .split at h
   .cases h
   .rename_i hc hcur;cases hr:wd false false [] cs with
    |none=>rw[hr]at h;cases h
    |some vs=>
     rw[hr]at h;simp only[Option.map_some,Option.some.injEq]at h;subst h;obtain⟨h1,h2,h3⟩:=Ud cs _ _ _ _ hr;obtain⟨v,vs',rfl⟩:∃v vs',vs=v::vs':=by cases vs with|nil=>exact absurd rfl h2|cons v vs'=>exact⟨v,vs',rfl⟩
     refine⟨?_,by simp,?_⟩
     .rw[jC,h1,hc];simp
     .intro w hw;rcases List.mem_cons.1 hw with rfl|hw
      .exact hcur
      .exact h3 w hw
  exact go _ _ h
theorem auA{s:List UInt8}{ws:List (List UInt8)}(h:nE s=some ws):jC ws=s/\ws≠[]/\∀w∈ws,w≠[]:=by
 have:=Ud _ _ _ _ _ h;rw[ad1,List.nil_append]at this;exact this
theorem af7:∀(ks cs:List (List UInt8)) (cur:List UInt8),(∀k∈ks,k≠[34]/\k≠[32])->wd false false cur (ks++cs)=wd false false (cur++ks.flatten) cs
 | [],cs,cur,_=>by simp
 |k::ks,cs,cur,h=>by
  obtain⟨h1,h2⟩:=h k (by simp);rw[List.cons_append,wd];simp only[Bool.false_eq_true,if_false,h1,h2];rw[af7 ks cs _ (fun k hk=>h k (by simp[hk])),List.append_assoc,List.flatten_cons]
theorem aA5{c:List UInt8}(h:Chunk c)(cs:List (List UInt8))(cur:List UInt8):wd true false cur (qk c++cs)=wd true false (cur++qc c) cs:=by
 unfold qc qk;by_cases ho:jW c=true
 .rw[if_pos ho];by_cases he:c=[34]\/c=[92]
  .rw[if_pos he];rcases he with rfl|rfl
   .simp[wd]
   simp[wd]
  .rw[if_neg he];simp only[not_or]at he;simp[wd,he.1,he.2]
 rw[if_neg ho];rw[Bool.not_eq_true]at ho;obtain⟨x,rfl⟩:=ahA h ho;have hb:=x.toNat_lt;obtain⟨_,_,n1,n2,_⟩:=Ow (x.toNat/16) (by omega);obtain⟨_,_,m1,m2,_⟩:=Ow (x.toNat%16) (by omega);simp[wd,m1,m2]
theorem aiE:∀(ds cs:List (List UInt8)) (cur:List UInt8),(∀c∈ds,Chunk c)->wd true false cur (ds.flatMap qk++cs)=wd true false (cur++ds.flatMap qc) cs
 | [],cs,cur,_=>by simp
 |d::ds,cs,cur,h=>by
  rw[List.flatMap_cons,List.append_assoc,aA5 (h d (by simp)),aiE ds cs _ (fun c hc=>h c (by simp[hc])),List.append_assoc,List.flatMap_cons]
theorem aw4(l:List UInt8)(cs:List (List UInt8))(cur:List UInt8):wd false false cur (ED l++cs)=wd false false (cur++qs l) cs:=by
 unfold ED qs;rw[List.cons_append,wd];simp only[Bool.false_eq_true,if_false,if_true,Bool.not_false];rw[List.append_assoc,aiE _ _ _ (fun c hc=>Td c hc)];simp only[List.cons_append,List.nil_append];rw[wd];simp
theorem Sl:∀(s r:List UInt8),s.all Lu=true->chunks (s++r)=s.map ([·])++chunks r
 | [],r,_=>by simp
 |x::s,r,h=>by
  simp only[List.all_cons,Bool.and_eq_true]at h;have hx:x.toNat<128:=by have:=of_decide_eq_true h.1;omega
  have:=RA (Gu x hx) (s++r);rw[List.cons_append,List.nil_append]at this;rw[List.cons_append,this,Sl s r h.2];rfl
theorem Zv:∀s:List UInt8,(s.map ([·])).flatten=s
 | []=>rfl
 |x::s=>by simp[Zv s]
theorem aw3{s:List UInt8}(h:s.all Lu=true)(cs:List (List UInt8))(cur:List UInt8):wd false false cur (s.map ([·])++cs)=wd false false (cur++s) cs:=by
 rw[af7,Zv];intro k hk;obtain⟨x,hx,rfl⟩:=List.mem_map.1 hk;have:=of_decide_eq_true ((List.all_eq_true.1 h) x hx);constructor
 .intro e;simp at e;subst e;simp at this
 intro e;simp at e;subst e;simp at this
def isWord(w:List UInt8):Prop:=(∃l,w=qs l)\/IB w=true
theorem SF{w:List UInt8}(h:isWord w):w≠[]:=by
 rcases h with⟨l,rfl⟩|h
 .unfold qs;simp
 rintro rfl;simp[IB]at h
theorem Oh{w:List UInt8}(h:isWord w)(r cur:List UInt8):wd false false cur (chunks (w++r))=wd false false (cur++w) (chunks r):=by
 rcases h with⟨l,rfl⟩|h
 .rw[awP,aw4]
 unfold IB at h;simp only[Bool.and_eq_true]at h;rw[Sl _ _ h.2,aw3 h.2]
theorem Tc(r:List UInt8):chunks (32::r)=[32]::chunks r:=RA (Gu 32 (by decide)) r
theorem Vm{cur:List UInt8}(h:cur≠[])(r:List UInt8):wd false false cur (chunks (32::r))=(wd false false [] (chunks r)).map (cur::·):=by
 rw[Tc,wd];simp[h]
theorem af5:∀(ws:List (List UInt8)),ws≠[]->(∀w∈ws,isWord w)->nE (jC ws)=some ws/\nE (jC ws++ [32])=none/\nE (32::jC ws)=none
 | [],h,_=>absurd rfl h
 | [w],_,h=>by
  have hw:=h w (by simp);have hne:=SF hw;unfold nE jC;refine⟨?_,?_,?_⟩
  .have:=Oh hw [] [];rw[List.append_nil,zf,List.nil_append]at this;rw[this,wd];simp[hne]
  .rw[Oh hw,List.nil_append,Vm hne,zf,wd];simp
  rw[Tc,wd];simp
 |w::v::l,_,h=>by
  have hw:=h w (by simp);have hne:=SF hw;obtain⟨h1,h2,h3⟩:=af5 (v::l) (by simp) (fun x hx=>h x (by simp[hx]));unfold nE at*;rw[jC];refine⟨?_,?_,?_⟩
  .rw[Oh hw,List.nil_append,Vm hne,h1];rfl
  .rw[List.append_assoc,Oh hw,List.nil_append,List.cons_append,Vm hne,h2];rfl
  rw[Tc,wd];simp
end Go.Plain
namespace Go.Vc
theorem aG.{u}:type_of% @forall_const.{u}:=@forall_const.{u}
theorem zq.{u}:type_of% @if_neg.{u}:=@if_neg.{u}
theorem aC.{u}:type_of% @if_pos.{u}:=@if_pos.{u}
theorem gu:type_of% @Go.RowKit.Below.heap_setCell:=@Go.RowKit.Below.heap_setCell
theorem dR:type_of% @Go.run_underlying:=@Go.run_underlying
theorem mZ:type_of% @Go.World.alloc_heap_new:=@Go.World.alloc_heap_new
theorem eD:type_of% @Go.RowKit.Below.refl:=@Go.RowKit.Below.refl
theorem lX:type_of% @Go.RowKit.Below.heap_alloc:=@Go.RowKit.Below.heap_alloc
theorem fD:type_of% @Go.bodyPost_ret:=@Go.bodyPost_ret
theorem gQ:type_of% @decide_eq_false:=@decide_eq_false
theorem kF:type_of% @Go.World.ownsRow_nil:=@Go.World.ownsRow_nil
theorem iH:type_of% @decide_eq_true:=@decide_eq_true
theorem ng:type_of% @of_decide_eq_true:=@of_decide_eq_true
theorem iL:type_of% @Go.RowKit.Below.alloc:=@Go.RowKit.Below.alloc
theorem zo:type_of% @Go.World.size_alloc:=@Go.World.size_alloc
theorem iB:type_of% @Go.Sem.run_bind:=@Go.Sem.run_bind
theorem ni:type_of% @List.size_toArray.{0}:=@List.size_toArray.{0}
theorem pX.{u,v}:type_of% @congrArg.{u,v}:=@congrArg.{u,v}
theorem sF:type_of% @List.mem_singleton.{0}:=@List.mem_singleton.{0}
theorem qD:type_of% @Array.replicate_succ.{0}:=@Array.replicate_succ.{0}
theorem qC:type_of% @Array.replicate_zero.{0}:=@Array.replicate_zero.{0}
theorem eO.{u}:type_of% @if_true.{u}:=@if_true.{u}
theorem jN:type_of% @Go.callsIn_wide:=@Go.callsIn_wide
theorem qB:type_of% @List.append_toArray.{0}:=@List.append_toArray.{0}
theorem sD:type_of% @Go.Lib.byteCells_length:=@Go.Lib.byteCells_length
theorem zn:type_of% @Array.getElem?_modify.{0}:=@Array.getElem?_modify.{0}
theorem qF:type_of% @List.push_toArray.{0}:=@List.push_toArray.{0}
theorem nN:type_of% @Go.results_tmp2:=@Go.results_tmp2
theorem xA:type_of% @Nat.add_sub_cancel_left:=@Nat.add_sub_cancel_left
theorem vX:type_of% @Go.World.block_lt_of_cell?:=@Go.World.block_lt_of_cell?
theorem sH:type_of% @List.mem_nil_iff.{0}:=@List.mem_nil_iff.{0}
theorem uZ:type_of% @List.getElem?_modify.{0}:=@List.getElem?_modify.{0}
theorem sG:type_of% @Go.Result.andThen_ok:=@Go.Result.andThen_ok
theorem Al:type_of% @List.setIfInBounds_toArray.{0}:=@List.setIfInBounds_toArray.{0}
theorem F9:type_of% @Option.toList_some.{0}:=@Option.toList_some.{0}
theorem qE:type_of% @Nat.add_zero:=@Nat.add_zero
theorem zm:type_of% @List.take_add_one.{0}:=@List.take_add_one.{0}
theorem u6:type_of% @Nat.min_eq_left:=@Nat.min_eq_left
theorem pq:type_of% @Nat.add_mul:=@Nat.add_mul
theorem Ce:type_of% @List.getElem_mem.{0}:=@List.getElem_mem.{0}
theorem lC:type_of% @and_true:=@and_true
theorem Cc:type_of% @Nat.mul_le_mul_right:=@Nat.mul_le_mul_right
theorem sI:type_of% @Go.callsIn_of_wp:=@Go.callsIn_of_wp
theorem yM:type_of% @of_decide_eq_false:=@of_decide_eq_false
theorem Jf:type_of% @List.find?_eq_none.{0}:=@List.find?_eq_none.{0}
theorem Am:type_of% @Go.World.grownBy_alloc:=@Go.World.grownBy_alloc
theorem Je:type_of% @Nat.and_two_pow_sub_one_eq_mod:=@Nat.and_two_pow_sub_one_eq_mod
theorem zl:type_of% @Bool.not_eq_true':=@Bool.not_eq_true'
theorem pY.{u}:type_of% @if_false.{u}:=@if_false.{u}
theorem Ci:type_of% @Go.Lib.byteCells_append:=@Go.Lib.byteCells_append
theorem Aq:type_of% @List.set_cons_zero.{0}:=@List.set_cons_zero.{0}
theorem Ao:type_of% @List.set_cons_succ.{0}:=@List.set_cons_succ.{0}
theorem pz:type_of% @or_false:=@or_false
theorem vY:type_of% @List.take_zero.{0}:=@List.take_zero.{0}
theorem Ch:type_of% @Int.toNat_of_nonneg:=@Int.toNat_of_nonneg
theorem xB:type_of% @Go.heap_alloc_new:=@Go.heap_alloc_new
theorem Jg:type_of% @List.mem_of_getElem?.{0}:=@List.mem_of_getElem?.{0}
theorem Cg:type_of% @List.prefix_refl.{0}:=@List.prefix_refl.{0}
theorem Jj:type_of% @Decidable.not_not:=@Decidable.not_not
theorem Aw:type_of% @Int.toNat_zero:=@Int.toNat_zero
theorem Gb:type_of% @beq_eq_false_iff_ne.{0}:=@beq_eq_false_iff_ne.{0}
theorem Ck:type_of% @Int.natCast_add:=@Int.natCast_add
theorem Cj:type_of% @Bool.eq_iff_iff:=@Bool.eq_iff_iff
theorem Av:type_of% @false_implies:=@false_implies
theorem Ji:type_of% @List.mem_of_mem_tail.{0}:=@List.mem_of_mem_tail.{0}
theorem Ga:type_of% @List.foldl_append.{0,0}:=@List.foldl_append.{0,0}
theorem Jh:type_of% @Array.length_toList.{0}:=@Array.length_toList.{0}
theorem Au:type_of% @true_implies:=@true_implies
theorem D7:type_of% @List.mapM_cons.{0,0,0}:=@List.mapM_cons.{0,0,0}
theorem xC:type_of% @Array.ext'.{0}:=@Array.ext'.{0}
theorem Az:type_of% @Go.results_tmp:=@Go.results_tmp
theorem Cm:type_of% @Nat.add_comm:=@Nat.add_comm
theorem Ay:type_of% @Nat.one_mul:=@Nat.one_mul
theorem yN:type_of% @Go.info_parts:=@Go.info_parts
theorem aS:type_of% @Nat.le_refl:=@Nat.le_refl
theorem bB:type_of% @Bool.and_eq_true:=@Bool.and_eq_true
theorem bJ:type_of% @List.length_map.{0,0}:=@List.length_map.{0,0}
theorem bR:type_of% @List.length_cons.{0}:=@List.length_cons.{0}
theorem cu:type_of% @Nat.zero_le:=@Nat.zero_le
theorem cO:type_of% @List.length_append.{0}:=@List.length_append.{0}
theorem dF:type_of% @Int.toNat_natCast:=@Int.toNat_natCast
theorem dQ:type_of% @decide_eq_true_eq:=@decide_eq_true_eq
theorem dP:type_of% @Option.some.injEq.{0}:=@Option.some.injEq.{0}
theorem eB:type_of% @List.length_nil.{0}:=@List.length_nil.{0}
theorem zy:type_of% @List.getElem?_eq_some_iff.{0}:=@List.getElem?_eq_some_iff.{0}
theorem fZ:type_of% @List.getElem?_set_ne.{0}:=@List.getElem?_set_ne.{0}
theorem gJ:type_of% @List.append_assoc.{0}:=@List.append_assoc.{0}
theorem gP:type_of% @List.mem_map.{0,0}:=@List.mem_map.{0,0}
theorem gW:type_of% @List.map_append.{0,0}:=@List.map_append.{0,0}
theorem iw:type_of% @List.nil_append.{0}:=@List.nil_append.{0}
theorem iG:type_of% @Prod.mk.injEq.{0,0}:=@Prod.mk.injEq.{0,0}
theorem iR:type_of% @List.mem_cons.{0}:=@List.mem_cons.{0}
theorem iX:type_of% @Array.getElem?_eq_some_iff.{0}:=@Array.getElem?_eq_some_iff.{0}
theorem jG:type_of% @List.map_cons.{0,0}:=@List.map_cons.{0,0}
theorem jQ:type_of% @List.take_length.{0}:=@List.take_length.{0}
theorem zx:type_of% @List.mem_append.{0}:=@List.mem_append.{0}
theorem jV:type_of% @List.length_take.{0}:=@List.length_take.{0}
theorem kE:type_of% @List.cons.injEq.{0}:=@List.cons.injEq.{0}
theorem kD:type_of% @Nat.zero_add:=@Nat.zero_add
theorem kS:type_of% @List.cons_append.{0}:=@List.cons_append.{0}
theorem lW:type_of% @List.length_drop.{0}:=@List.length_drop.{0}
theorem lV:type_of% @List.append_nil.{0}:=@List.append_nil.{0}
theorem mO:type_of% @List.take_of_length_le.{0}:=@List.take_of_length_le.{0}
theorem nM:type_of% @List.take_succ_eq_append_getElem.{0}:=@List.take_succ_eq_append_getElem.{0}
theorem nL:type_of% @List.getElem?_eq_getElem.{0}:=@List.getElem?_eq_getElem.{0}
theorem nK:type_of% @Nat.lt_of_lt_of_le:=@Nat.lt_of_lt_of_le
theorem zw:type_of% @Nat.le_trans:=@Nat.le_trans
theorem nV:type_of% @List.getElem?_set_self.{0}:=@List.getElem?_set_self.{0}
theorem oC:type_of% @List.eq_nil_of_length_eq_zero.{0}:=@List.eq_nil_of_length_eq_zero.{0}
theorem ow:type_of% @List.getElem?_map.{0,0}:=@List.getElem?_map.{0,0}
theorem o9:type_of% @Option.isSome_iff_exists.{0}:=@Option.isSome_iff_exists.{0}
theorem pV:type_of% @decide_eq_false_iff_not:=@decide_eq_false_iff_not
theorem pU:type_of% @List.map_nil.{0,0}:=@List.map_nil.{0,0}
theorem pR:type_of% @List.all_eq_true.{0}:=@List.all_eq_true.{0}
theorem qV:type_of% @List.length_replicate.{0}:=@List.length_replicate.{0}
theorem sw:type_of% @List.getElem?_take.{0}:=@List.getElem?_take.{0}
theorem su:type_of% @Nat.add_assoc:=@Nat.add_assoc
theorem zu:type_of% @UInt8.toNat_ofNat':=@UInt8.toNat_ofNat'
theorem vW:type_of% @List.map_map.{0,0,0}:=@List.map_map.{0,0,0}
theorem vV:type_of% @Option.bind_eq_some_iff.{0,0}:=@Option.bind_eq_some_iff.{0,0}
theorem xw:type_of% @List.getElem?_append_left.{0}:=@List.getElem?_append_left.{0}
theorem xu:type_of% @List.drop_zero.{0}:=@List.drop_zero.{0}
theorem xq:type_of% @List.drop_drop.{0}:=@List.drop_drop.{0}
theorem xk:type_of% @Bool.false_eq_true:=@Bool.false_eq_true
theorem yK:type_of% @List.getElem?_drop.{0}:=@List.getElem?_drop.{0}
theorem yJ:type_of% @List.length_singleton.{0}:=@List.length_singleton.{0}
theorem yI:type_of% @Option.some.inj.{0}:=@Option.some.inj.{0}
theorem yL:type_of% @Option.map_some.{0,0}:=@Option.map_some.{0,0}
theorem Ak:type_of% @List.foldl_cons.{0,0}:=@List.foldl_cons.{0,0}
theorem Aj:type_of% @Option.map_eq_some_iff.{0,0}:=@Option.map_eq_some_iff.{0,0}
theorem Cb:type_of% @List.take_succ_cons.{0}:=@List.take_succ_cons.{0}
theorem Ca:type_of% @List.map_congr_left.{0,0}:=@List.map_congr_left.{0,0}
theorem D5:type_of% @List.take_append_drop.{0}:=@List.take_append_drop.{0}
theorem DZ:type_of% @List.drop_of_length_le.{0}:=@List.drop_of_length_le.{0}
theorem D6:type_of% @List.drop_eq_getElem_cons.{0}:=@List.drop_eq_getElem_cons.{0}
theorem F7:type_of% @List.getD_eq_getElem?_getD.{0}:=@List.getD_eq_getElem?_getD.{0}
theorem F6:type_of% @List.getElem?_append_right.{0}:=@List.getElem?_append_right.{0}
theorem F5:type_of% @List.drop_append.{0}:=@List.drop_append.{0}
theorem F4:type_of% @List.range_succ:=@List.range_succ
theorem F3:type_of% @Nat.mod_eq_of_lt:=@Nat.mod_eq_of_lt
theorem FZ:type_of% @List.drop_eq_nil_of_le.{0}:=@List.drop_eq_nil_of_le.{0}
theorem F8:type_of% @Option.getD_some.{0}:=@Option.getD_some.{0}
theorem Jd:type_of% @List.getElem?_eq_none.{0}:=@List.getElem?_eq_none.{0}
theorem Jc:type_of% @List.getElem?_set.{0}:=@List.getElem?_set.{0}
theorem Jb:type_of% @List.mem_of_mem_take.{0}:=@List.mem_of_mem_take.{0}
theorem Ja:type_of% @List.ext_getElem?.{0}:=@List.ext_getElem?.{0}
theorem I9:type_of% @Nat.pow_le_pow_right:=@Nat.pow_le_pow_right
theorem I8:type_of% @List.length_range:=@List.length_range
theorem Mg:type_of% @List.length_pos_iff.{0}:=@List.length_pos_iff.{0}
theorem Mf:type_of% @Array.getElem?_eq_getElem.{0}:=@Array.getElem?_eq_getElem.{0}
inductive C where
 |int (n:Int)
 |bool (b:Bool)
 |str (s:List UInt8)
 |ls (l:List C)
instance:Inhabited C:=⟨.int 0⟩
def C.toInt:C->Int| .int n=>n|_=>0
def C.toBool:C->Bool| .bool b=>b|_=>false
def C.jk:C->List UInt8| .str s=>s|_=> []
def C.toList:C->List C| .ls l=>l|_=> []
def C.hd(c:C):C:=c.toList.headD (.int 0)
def C.tl(c:C):C:=.ls c.toList.tail
def C.rH:C->Nat->C->C
 |c,0,x=> .ls (x::c.tl.toList)
 |c,j+1,x=> .ls (c.hd::(c.tl.rH j x).toList)
@[simp] theorem C.toInt_int(n:Int):(C.int n).toInt=n:=rfl
@[simp] theorem C.MQ(b:Bool):(C.bool b).toBool=b:=rfl
@[simp] theorem C.aDq(s:List UInt8):(C.str s).jk=s:=rfl
@[simp] theorem C.lF(l:List C):(C.ls l).toList=l:=rfl
@[simp] theorem C.vJ(x:C)(l:List C):(C.ls (x::l)).hd=x:=rfl
@[simp] theorem C.vH(x:C)(l:List C):(C.ls (x::l)).tl=.ls l:=rfl
inductive Sh where
 |int (k:IntKind)
 |bool
 |str
 |sl (e:Sh)
 |je
 |jc (a b:Sh)
 |dB (t:TypeId) (s:Sh)
 |kP
 |fH (f:FuncId)
 |mp (k:IntKind) (s:Sh)
 deriving DecidableEq,Repr
def Sh.size:Sh->Nat
 | .int _| .bool| .str| .sl _| .dB _ _| .kP| .fH _| .mp _ _=>1
 | .je=>0
 | .jc a b=>a.size+b.size
def Sh.isAgg:Sh->Bool
 | .je| .jc _ _=>true
 |_=>false
def Sh.eG:Sh->Nat->Option (Sh×Nat)
 | .jc a _,0=>some (a,0)
 | .jc a b,j+1=>(b.eG j).map fun(s,o)=>(s,a.size+o)
 |_,_=>none
inductive E where
 |vq (i:Nat)
 |int (n:Int)
 |bool (b:Bool)
 |str (s:List UInt8)
 |nil
 |bg
 |cons (h t:E)
 |hd (e:E)
 |tl (e:E)
 |rH (j:Nat) (e x:E)
 |bin (op:BinOp) (k:IntKind) (x y:E)
 |raw (op:BinOp) (x y:E)
 |cmp (op:BinOp) (x y:E)
 |tX (op:BinOp) (x y:E)
 |beq (x y:E)
 |not (x:E)
 |ite (c x y:E)
 |conv (k:IntKind) (x:E)
 |Iy (k:IntKind) (x:E)
 |len (x:E)
 |gG (x:E)
 |idx (l i:E)
 |BM (s i:E)
 |sub (l lo hi:E)
 |zX (s lo hi:E)
 |app (l m:E)
 |set (l i x:E)
 |rep (n x:E)
 |jr (l off m:E)
 |jk (l:E)
 |ofStr (s:E)
 |cat (s t:E)
 |qR (x y:E)
 |FQ (x y:E)
 |fits (k:IntKind) (x:E)
 |Cx (s:Sh) (x y:E)
 |jF (m k z:E)
 |vQ (m k:E)
 |lQ (m k v:E)
 |zW (s p:E)
 |Ah (s p:E)
 deriving Inhabited,DecidableEq
def jD(l:List C)(k:Int):Option C:=l.find? fun d=>d.hd.toInt==k
def pQ:List C->Int->C->List C
 | [],k,v=> [.ls [.int k,v]]
 |d::l,k,v=>if d.hd.toInt=k then .ls [.int k,v]::l else d::pQ l k v
def oN:Sh->C->C->Bool
 | .int _,x,y=>x.toInt==y.toInt
 | .bool,x,y=>x.toBool==y.toBool
 | .str,x,y=>x.jk==y.jk
 | .sl _,_,_=>false
 | .je,_,_=>true
 | .jc a b,x,y=>oN a x.hd y.hd&&oN b x.tl y.tl
 |_,_,_=>false
def arith(op:BinOp)(k:IntKind)(x y:Int):Int:=
 match op with
 | .add=>k.wrap (x+y)
 | .sub=>k.wrap (x-y)
 | .mul=>k.wrap (x*y)
 | .quo=>k.wrap (x.tdiv y)
 | .rem=>x.tmod y
 | .and=>k.wrap (BitVec.ofInt k.bits x&&&BitVec.ofInt k.bits y).toNat
 | .or=>k.wrap (BitVec.ofInt k.bits x|||BitVec.ofInt k.bits y).toNat
 | .xor=>k.wrap (BitVec.ofInt k.bits x^^^BitVec.ofInt k.bits y).toNat
 | .andNot=>k.wrap (BitVec.ofInt k.bits x&&& ~~~BitVec.ofInt k.bits y).toNat
 | .shl=>k.wrap (x*2^(min y.toNat k.bits))
 | .shr=>x.fdiv (2^(min y.toNat k.bits))
 |_=>0
def sU(op:BinOp)(x y:Int):Int:=
 match op with
 | .add=>x+y
 | .sub=>x-y
 | .mul=>x*y
 |_=>0
def mY(op:BinOp)(x y:Int):Bool:=
 match op with
 | .eql=>x==y
 | .neq=>x !=y
 | .lss=>x<y
 | .leq=>x<=y
 | .gtr=>x>y
 | .geq=>x≥y
 |_=>false
def yD(op:BinOp)(x y:List UInt8):Bool:=
 match op with
 | .eql=>x==y
 | .neq=> !(x==y)
 | .lss=>Op.bytesLess x y
 | .leq=>Op.bytesLess x y||x==y
 | .gtr=> !(Op.bytesLess x y||x==y)
 | .geq=> !Op.bytesLess x y
 |_=>false
def jr{α:Type}(l:List α)(k:Nat)(m:List α):List α:=l.take k++(m.take (l.length-k)++l.drop (k+m.length))
def bytesOf(l:List C):List UInt8:=l.map fun c=>UInt8.ofNat c.toInt.toNat
def ofBytes(s:List UInt8):List C:=s.map fun b=> .int b.toNat
def E.eval(ρ:List C):E->C
 | .vq i=>ρ.getD i default
 | .int n=> .int n
 | .bool b=> .bool b
 | .str s=> .str s
 | .nil=> .ls []
 | .bg=> .ls []
 | .cons h t=> .ls (h.eval ρ::(t.eval ρ).toList)
 | .hd e=>(e.eval ρ).hd
 | .tl e=>(e.eval ρ).tl
 | .rH j e x=>(e.eval ρ).rH j (x.eval ρ)
 | .bin op k x y=> .int (arith op k (x.eval ρ).toInt (y.eval ρ).toInt)
 | .raw op x y=> .int (sU op (x.eval ρ).toInt (y.eval ρ).toInt)
 | .cmp op x y=> .bool (mY op (x.eval ρ).toInt (y.eval ρ).toInt)
 | .tX op x y=> .bool (yD op (x.eval ρ).jk (y.eval ρ).jk)
 | .beq x y=> .bool ((x.eval ρ).toBool==(y.eval ρ).toBool)
 | .not x=> .bool !(x.eval ρ).toBool
 | .ite c x y=>if(c.eval ρ).toBool then x.eval ρ else y.eval ρ
 | .conv k x=> .int (k.wrap (x.eval ρ).toInt)
 | .Iy k x=> .int (k.wrap (BitVec.ofInt k.bits (if k.signed then-1 else k.max)^^^BitVec.ofInt k.bits (x.eval ρ).toInt).toNat)
 | .len x=> .int (x.eval ρ).toList.length
 | .gG x=> .int (x.eval ρ).jk.length
 | .idx l i=>(l.eval ρ).toList.getD (i.eval ρ).toInt.toNat default
 | .BM s i=> .int ((s.eval ρ).jk.getD (i.eval ρ).toInt.toNat 0).toNat
 | .sub l lo hi=> .ls (((l.eval ρ).toList.take (hi.eval ρ).toInt.toNat).drop (lo.eval ρ).toInt.toNat)
 | .zX s lo hi=> .str (((s.eval ρ).jk.take (hi.eval ρ).toInt.toNat).drop (lo.eval ρ).toInt.toNat)
 | .app l m=> .ls ((l.eval ρ).toList++(m.eval ρ).toList)
 | .set l i x=> .ls ((l.eval ρ).toList.set (i.eval ρ).toInt.toNat (x.eval ρ))
 | .rep n x=> .ls (List.replicate (n.eval ρ).toInt.toNat (x.eval ρ))
 | .jr l off m=> .ls (Vc.jr (l.eval ρ).toList (off.eval ρ).toInt.toNat (m.eval ρ).toList)
 | .jk l=> .str (bytesOf (l.eval ρ).toList)
 | .ofStr s=> .ls (ofBytes (s.eval ρ).jk)
 | .cat s t=> .str ((s.eval ρ).jk++(t.eval ρ).jk)
 | .qR x y=> .int (min (x.eval ρ).toInt (y.eval ρ).toInt)
 | .FQ x y=> .int (max (x.eval ρ).toInt (y.eval ρ).toInt)
 | .Cx s x y=> .bool (oN s (x.eval ρ) (y.eval ρ))
 | .fits k x=> .bool (decide (k.min<=(x.eval ρ).toInt/\(x.eval ρ).toInt<=k.max))
 | .jF m k z=>match jD (m.eval ρ).toList (k.eval ρ).toInt with|some d=>d.tl.hd|none=>z.eval ρ
 | .vQ m k=> .bool (jD (m.eval ρ).toList (k.eval ρ).toInt).isSome
 | .lQ m k v=> .ls (pQ (m.eval ρ).toList (k.eval ρ).toInt (v.eval ρ))
 | .zW s p=> .int (Utf8.decode ⟨(s.eval ρ).jk.toArray⟩ (p.eval ρ).toInt.toNat).1
 | .Ah s p=> .int (Utf8.decode ⟨(s.eval ρ).jk.toArray⟩ (p.eval ρ).toInt.toNat).2
def E.bd(n:Nat):E->Bool
 | .vq i=>i<n
 | .int _| .bool _| .str _| .nil| .bg=>true
 | .hd e| .tl e| .not e| .conv _ e| .Iy _ e| .len e| .gG e| .jk e| .ofStr e| .fits _ e=>e.bd n
 | .cons x y| .rH _ x y| .bin _ _ x y| .raw _ x y| .cmp _ x y| .tX _ x y| .beq x y| .idx x y| .BM x y| .app x y| .rep x y| .cat x y| .qR x y| .FQ x y| .Cx _ x y| .vQ x y| .zW x y| .Ah x y=>x.bd n&&y.bd n
 | .ite x y z| .sub x y z| .zX x y z| .set x y z| .jr x y z| .jF x y z| .lQ x y z=>x.bd n&&(y.bd n&&z.bd n)
theorem E.ax0(ρ σ:List C)(e:E)(h:e.bd ρ.length=true):e.eval (ρ++σ)=e.eval ρ:=by
 induction e with
 |vq i=>simp[E.bd]at h;simp[E.eval,List.getD,xw h]
 |_=>simp_all[E.bd,E.eval]
end Go.Vc
namespace Go
def World.jL(w : World)(B : Nat -> Prop)(e : TypeId)(size : Nat)(v : Value)(n : Nat)(xs : List Value) : Prop :=
  xs.length = n * size /\
  ((v =.slice none 0 0 /\ n = 0) \/
   ∃ g cap cur, v =.slice (some ⟨g, 0, none⟩) n cap /\ B g /\ w.heap[g]? = some (.cells cur e (0, 0)) /\ n <= cap /\ cap <= maxLen /\ cur.size = cap * size /\ cur.toList.take (n * size) = xs)
end Go
namespace Go.Vc
open Go.RowKit
def pG(w:World)(b off:Nat)(us:List Value):Prop:=∀j u,us[j]?=some u->w.cell? ⟨b,off+j,none⟩=some u
def wT(w:World)(n:Nat)(R:List Value->C->Prop)(b off:Nat)(l:List C):Prop:=
 ∀i c,l[i]?=some c->∃us,us.length=n/\pG w b (off+i*n) us/\R us c
def Sh.mk(s:Sh)(vs:List Value):Value:=if s.isAgg then .agg vs.toArray else vs.headD undef
def rD(w:World)(b:Nat)(kk:IntKind)(l:List (Int×Value)):Prop:=
 ∃es clock,w.heap[b]?=some (.map es clock)/\es.toList.map (fun e=>(e.key,e.val))=l.map fun p=>(.int kk p.1,p.2)
def qQ(R:Value->C->Prop):List (Int×Value)->List C->Prop
 | [],[]=>True
 |p::l,d::cs=>d.hd.toInt=p.1/\R p.2 d.tl.hd/\qQ R l cs
 |_,_=>False
def Rd(w:World)(N:Nat->Prop):Sh->List Value->C->Prop
 | .int k,vs,c=>vs=[.int k c.toInt]
 | .bool,vs,c=>vs=[.bool c.toBool]
 | .str,vs,c=>vs=[.string ⟨c.jk.toArray⟩]
 | .sl e,vs,c=>∃a cap,vs=[.slice a c.toList.length cap]/\c.toList.length<=cap/\cap<=maxLen/\
   (c.toList≠[]->∃b off,a=some ⟨b,off,none⟩/\N b/\b<w.heap.size/\wT w e.size (Rd w N e) b off c.toList)
 | .je,vs,_=>vs=[]
 | .jc a b,vs,c=>b.isAgg=true/\∃va vb,vs=va++vb/\Rd w N a va c.hd/\Rd w N b vb c.tl
 | .dB t s,vs,c=>∃us,vs=[.iface t (s.mk us)]/\Rd w N s us c
 | .kP,vs,_=>vs=[.nilIface]
 | .fH f,vs,_=>vs=[.func (.func f) #[] #[]]
 | .mp k s,vs,c=>∃g l,vs=[.map (some g)]/\N g/\g<w.heap.size/\rD w g k l/\qQ (fun v d=>Rd w N s [v] d) l c.toList
def bV(w:World)(N:Nat->Prop)(s:Sh)(v:Value)(c:C):Prop:=∃vs,Rd w N s vs c/\v=s.mk vs
def fI(w:World)(N:Nat->Prop):List (Sh×C)->List Value->Prop
 | [],vs=>vs=[]
 |(s,c)::l,vs=>∃v r,vs=v::r/\bV w N s v c/\fI w N l r
def PN(w:World)(N:Nat->Prop)(l:List (Sh×C))(v:Value):Prop:=
 ∃vs,fI w N l vs/\v=(if h:vs.length=1 then vs[0]else .tuple vs.toArray)
def zC(P:Program)(f:FuncId):Prop:=∃fn,P.funcs[f]?=some fn/\fn.body.isNone=false/\(fn.name== "runtime.NumGoroutine")=false
def dI:Value->Option Nat
 | .slice (some a) _ _=>some a.block
 | .pointer (some a)=>some a.block
 | .map (some b)=>some b
 |_=>none
def cZ(w:World)(N:Nat->Prop)(s:Sh):List Value->List C->Prop
 |xs,[]=>xs=[]
 |xs,c::l=>∃u r,xs=u++r/\Rd w N s u c/\cZ w N s r l
def pack(vs:List Value):Value:=if h:vs.length=1 then vs[0]else .tuple vs.toArray
def U2(c:Nat):Int:=
 if c<128 then 240 else if c<194 then 241 else if c<224 then 2 else if c=224 then 19 else if c=237 then 35 else if c<240 then 3 else if c=240 then 52 else if c<244 then 4 else if c=244 then 68 else 241
def Ui:List Int:=[128,191,160,191,128,159,144,191,128,143,0,0,0,0,0,0,0,0,0,0,0,0,0,0,0,0,0,0,0,0,0,0]
def aiI:List Int:=[1,10,100,1000,10000,100000,1000000,10000000,100000000,1000000000,10000000000,100000000000,1000000000000,10000000000000,100000000000000,1000000000000000,10000000000000000,100000000000000000,1000000000000000000,10000000000000000000]
def tabs:List (String×List Value):=[("unicode/utf8.first",(List.range 256).map fun c=> .int .u8 (U2 c)),("unicode/utf8.acceptRanges",Ui.map fun n=> .int .u8 n)]
def zR(P:Program)(n:String):Option Nat:=P.globals.findIdx? fun y=>y.name==n
def Sz:String:= "internal/strconv.uint64pow10"
def UW:List (String×List Value):=[(Sz,aiI.map fun n=> .int .u64 n),("crossbar/rtcp.kinds",[1,1,2,3,4].map fun n=> .int .i64 n),
 ("crossbar/feed.codes",[1,205,1,2,205,15,3,206,1,4,206,4,5,206,15].map fun n=> .int .i64 n)]
def KWp(P:Program)(w:World):Prop:=∀x∈UW,∀g,zR P x.1=some g->∃t fz,w.heap[g]?=some (.cells x.2.toArray t fz)
def KW(P:Program)(w:World):Prop:=(∀x∈tabs,∀g,zR P x.1=some g->pG w g 0 x.2)/\KWp P w
def wC(P:Program)(g:Nat):Prop:=(∃x∈tabs,zR P x.1=some g)\/∃x∈UW,zR P x.1=some g
theorem awQ{w w':World}{a:Addr}(h:w'.heap[a.block]?=w.heap[a.block]?):w'.cell? a=w.cell? a:=by unfold World.cell?;rw[h]
theorem KW.keep{P:Program}{w w':World}(h:KW P w)(hk:∀g,wC P g->w'.heap[g]?=w.heap[g]?):KW P w':=by
 refine⟨fun x hx g hg j u hu=>?_,fun x hx g hg=>?_⟩
 .rw[awQ (hk g (.inl ⟨x,hx,hg⟩))];exact h.1 x hx g hg j u hu
 rw[hk g (.inr ⟨x,hx,hg⟩)];exact h.2 x hx g hg
theorem ayA:∀x∈tabs,∃u,x.2[0]?=some u:=by
 intro x hx;simp only[tabs,iR,sH,pz]at hx;rcases hx with rfl|rfl
 .exact ⟨_,rfl⟩
 exact ⟨_,rfl⟩
theorem KW.lt{P:Program}{w:World}(h:KW P w){g:Nat}(hg:wC P g):g<w.heap.size:=by
 rcases hg with⟨x,hx,hg⟩|⟨x,hx,hg⟩
 .obtain ⟨u,hu⟩:=ayA x hx;have:=h.1 x hx g hg 0 u hu;rcases Nat.lt_or_ge g w.heap.size with h'|h'
  .exact h'
  .simp[World.cell?,Array.getElem?_eq_none h']at this
 obtain ⟨t,fz,h2⟩:=h.2 x hx g hg;exact(iX.1 h2).1
theorem KW.below{P:Program}{w w':World}(h:KW P w)(hb:Below w.heap.size w w'):KW P w':=h.keep fun g hg=>hb.block g (h.lt hg)
def Xg(P:Program)(f:FuncId)(args aK:List (Sh×C)):Prop:=
 zC P f/\∀(w:World) (N:Nat->Prop) (vs:List Value),KW P w->fI w N args vs->
  Calls P f vs.toArray w fun e w'=>∃v,e=.returned v/\PN w' (fun b=>N b\/w.heap.size<=b) aK v/\Below w.heap.size w w'
def Behind(N:Nat->Prop)(w:World)(v0 v1:Value)(b:Nat):Prop:=(N b\/w.heap.size<=b\/dI v0=some b)/\dI v1≠some b
def GC(P:Program)(f:FuncId)(args aK:List (Sh×C)):Prop:=
 ∃s c0 args' c1 vM,args=(.sl s,c0)::args'/\aK=(.sl s,c1)::vM/\zC P f/\
  ∀(w:World) (N:Nat->Prop) (et:TypeId) (xs:List Value) (v0:Value) (vs:List Value),
   KW P w->(∀g,dI v0=some g->¬wC P g)->w.jL (fun _=>True) et s.size v0 c0.toList.length xs->cZ w N s xs c0.toList->(∀g,dI v0=some g->¬N g)->fI w N args' vs->
   Calls P f (v0::vs).toArray w fun e w'=>∃v1 vr gM xs',e=.returned (pack (v1::vr))/\w.grownBy w' (dI v0)/\
    w'.jL (fun g=>w.heap.size<=g\/dI v0=some g) gM s.size v1 c1.toList.length xs'/\cZ w' (Behind N w v0 v1) s xs' c1.toList/\fI w' (Behind N w v0 v1) vM vr
def FC(P:Program)(f:FuncId)(args aK:List (Sh×C)):Prop:=
 ∃s c1 vM,aK=(.sl s,c1)::vM/\zC P f/\
  ∀(w:World) (N:Nat->Prop) (vs:List Value),KW P w->fI w N args vs->
   Calls P f vs.toArray w fun e w'=>∃v1 vr gM xs',e=.returned (pack (v1::vr))/\Below w.heap.size w w'/\
    w'.jL (fun g=>w.heap.size<=g) gM s.size v1 c1.toList.length xs'/\cZ w' (Behind N w (.slice none 0 0) v1) s xs' c1.toList/\fI w' (Behind N w (.slice none 0 0) v1) vM vr
def DY:Sh->List Value->Prop
 | .sl _,vs=>vs=[.slice none 0 0]
 | .jc a b,vs=>∃va vb,vs=va++vb/\va.length=a.size/\DY a va/\DY b vb
 | .dB _ _,_| .mp _ _,_=>False
 |_,_=>True
def NC(P:Program)(f:FuncId)(args aK:List (Sh×C)):Prop:=
 ∃s c,aK=[(s,c)]/\zC P f/\∀(w:World) (N:Nat->Prop) (vs:List Value),KW P w->fI w N args vs->
  Calls P f vs.toArray w fun e w'=>∃us,e=.returned (s.mk us)/\Rd w' (fun b=>N b\/w.heap.size<=b) s us c/\DY s us/\Below w.heap.size w w'
def PC(P:Program)(f:Nat)(args aK:List (Sh×C)):Prop:=
 if f<1000000 then Xg P f args aK else if f<2000000 then GC P (f-1000000) args aK else if f<3000000 then FC P (f-2000000) args aK else NC P (f-3000000) args aK
theorem PC.qX{P:Program}{f:Nat}{args aK:List (Sh×C)}(hf:f<1000000)(h:Xg P f args aK):PC P f args aK:=by unfold PC;rw[aC hf];exact h
theorem PC.oF{P:Program}{f:Nat}{args aK:List (Sh×C)}(hf:f<1000000)(h:PC P f args aK):Xg P f args aK:=by unfold PC at h;rwa[aC hf]at h
theorem PC.ofG{P:Program}{f:Nat}{args aK:List (Sh×C)}(hf:f<1000000)(h:GC P f args aK):PC P (1000000+f) args aK:=by
 unfold PC;rw[zq (by omega),aC (by omega),xA];exact h
theorem PC.toG{P:Program}{f:Nat}{args aK:List (Sh×C)}(hf:f<1000000)(h:PC P (1000000+f) args aK):GC P f args aK:=by
 unfold PC at h;rwa[zq (by omega),aC (by omega),xA]at h
theorem PC.ofF{P:Program}{f:Nat}{args aK:List (Sh×C)}(hf:f<1000000)(h:FC P f args aK):PC P (2000000+f) args aK:=by
 unfold PC;rw[zq (by omega),zq (by omega),aC (by omega),xA];exact h
theorem PC.toF{P:Program}{f:Nat}{args aK:List (Sh×C)}(hf:f<1000000)(h:PC P (2000000+f) args aK):FC P f args aK:=by
 unfold PC at h;rwa[zq (by omega),zq (by omega),aC (by omega),xA]at h
theorem PC.ofN{P:Program}{f:Nat}{args aK:List (Sh×C)}(h:NC P f args aK):PC P (3000000+f) args aK:=by
 unfold PC;rw[zq (by omega),zq (by omega),zq (by omega),xA];exact h
theorem PC.toN{P:Program}{f:Nat}{args aK:List (Sh×C)}(h:PC P (3000000+f) args aK):NC P f args aK:=by
 unfold PC at h;rwa[zq (by omega),zq (by omega),zq (by omega),xA]at h
theorem Rd.length{w:World}{N:Nat->Prop}:∀{s:Sh}{vs:List Value}{c:C},Rd w N s vs c->vs.length=s.size
 | .int _,_,_,h| .bool,_,_,h| .str,_,_,h=>by simp only[Rd]at h;subst h;rfl
 | .sl _,_,_,h=>by obtain⟨_,_,rfl,_⟩:=h;rfl
 | .je,_,_,h=>by simp only[Rd]at h;subst h;rfl
 | .jc _ _,_,_,h=>by
  obtain⟨_,va,vb,rfl,ha,hb⟩:=h;simp[Sh.size,Rd.length ha,Rd.length hb]
 | .dB _ _,_,_,h=>by obtain⟨_,rfl,_⟩:=h;rfl
 | .kP,_,_,h| .fH _,_,_,h=>by simp only[Rd]at h;subst h;rfl
 | .mp _ _,_,_,h=>by obtain⟨_,_,rfl,_⟩:=h;rfl
theorem Rd.zG{w:World}{N:Nat->Prop}{s:Sh}{vs:List Value}{c c':C}(hs:s.isAgg=true)(hc:c.toList=c'.toList)(h:Rd w N s vs c):Rd w N s vs c':=by
 cases s with
 |je=>exact h
 |jc a b=>
  obtain⟨h0,va,vb,h1,h2,h3⟩:=h;refine⟨h0,va,vb,h1,?_,?_⟩
  .simpa [C.hd,hc]using h2
  simpa [C.tl,hc]using h3
 |_=>cases hs
theorem pG.mono{w w':World}{b off:Nat}{us:List Value}(h:pG w b off us)(hb:w'.heap[b]?=w.heap[b]?):pG w' b off us:=
 fun j u hu=>(World.cell?_of_block (w:=w) (a:=⟨b,off+j,none⟩) hb).trans (h j u hu)
theorem rD.same{w w':World}{b:Nat}{kk:IntKind}{l:List (Int×Value)}(h:rD w b kk l)(hb:w'.heap[b]?=w.heap[b]?):rD w' b kk l:=by
 obtain⟨es,clock,h1,h2⟩:=h;exact⟨es,clock,hb.trans h1,h2⟩
theorem qQ.imp{R R':Value->C->Prop}(h:∀v d,R v d->R' v d):∀{l:List (Int×Value)} {cs:List C},qQ R l cs->qQ R' l cs
 | [],[],_=>trivial
 |_::_,_::_,⟨h1,h2,h3⟩=>⟨h1,h _ _ h2,qQ.imp h h3⟩
 | [],_::_,h=>h.elim
 |_::_,[],h=>h.elim
theorem Rd.mono{w w':World}{N N':Nat->Prop}(hs:w.heap.size<=w'.heap.size)(hk:∀b,N b->b<w.heap.size->w'.heap[b]?=w.heap[b]?/\N' b):
  ∀{s:Sh}{vs:List Value}{c:C},Rd w N s vs c->Rd w' N' s vs c
 | .int _,_,_,h| .bool,_,_,h| .str,_,_,h=>h
 | .sl e,_,_,⟨a,cap,h1,h2,h3,h4⟩=>⟨a,cap,h1,h2,h3,fun hne=>by
   obtain⟨b,off,ha,hn,hlt,hr⟩:=h4 hne;refine⟨b,off,ha,(hk b hn hlt).2,nK hlt hs,fun i c hc=>?_⟩;obtain⟨us,h5,h6,h7⟩:=hr i c hc;exact⟨us,h5,h6.mono (hk b hn hlt).1,Rd.mono hs hk h7⟩⟩
 | .je,_,_,h=>h
 | .jc _ _,_,_,⟨h0,va,vb,h1,h2,h3⟩=>⟨h0,va,vb,h1,Rd.mono hs hk h2,Rd.mono hs hk h3⟩
 | .dB _ _,_,_,⟨us,h1,h2⟩=>⟨us,h1,Rd.mono hs hk h2⟩
 | .kP,_,_,h| .fH _,_,_,h=>h
 | .mp _ _,_,_,⟨g,l,h1,h2,h3,h4,h5⟩=>⟨g,l,h1,(hk g h2 h3).2,nK h3 hs,h4.same (hk g h2 h3).1,h5.imp fun _ _ h=>Rd.mono hs hk h⟩
theorem bV.mono{w w':World}{N N':Nat->Prop}(hs:w.heap.size<=w'.heap.size)(hk:∀b,N b->b<w.heap.size->w'.heap[b]?=w.heap[b]?/\N' b)
  {s:Sh}{v:Value}{c:C}(h:bV w N s v c):bV w' N' s v c:=let ⟨vs,h1,h2⟩:=h;⟨vs,h1.mono hs hk,h2⟩
theorem fI.mono{w w':World}{N N':Nat->Prop}(hs:w.heap.size<=w'.heap.size)(hk:∀b,N b->b<w.heap.size->w'.heap[b]?=w.heap[b]?/\N' b):
  ∀{l:List (Sh×C)} {vs:List Value},fI w N l vs->fI w' N' l vs
 | [],_,h=>h
 |(_,_)::_,_,⟨v,r,h1,h2,h3⟩=>⟨v,r,h1,h2.mono hs hk,h3.mono hs hk⟩
abbrev bq:=List (E×Bool)
def bF(ρ:List C)(p:bq):Prop:=∀x∈p,(x.1.eval ρ).toBool=x.2
def zL(n:Nat)(p:bq):Bool:=p.all fun x=>x.1.bd n
def zF(p q:bq):Bool:=p.all fun x=>q.any fun y=>decide (x.1=y.1)&&x.2==y.2
inductive VC where
 |fail (why:Nat)
 |ak (p:bq) (e:E) (k:VC)
 |call (p:bq) (f:Nat) (args:List (Sh×E)) (aK:List Sh) (k:VC)
 |cond (e:E) (a b:VC)
 |Cz (e:E) (a b:VC)
 |ret (rs:List (Sh×E))
 |loop (init:List E) (body:VC)
 |jm (lvl:Nat) (es:List E)
 |cut (n:Nat) (body rest:VC)
def gB(ρ:List C)(l:List (Sh×E)):List (Sh×C):=l.map fun x=>(x.1,x.2.eval ρ)
def VC.holds(P:Program)(Post:List (Sh×C)->Prop):List (List C->Prop)->List C->VC->Prop
 |_,_,.fail _=>False
 |B,ρ,.ak p e k=>(bF ρ p->(e.eval ρ).toBool=true)/\k.holds P Post B ρ
 |B,ρ,.call p f args aK k=>∃res:List C,res.length=aK.length/\(bF ρ p->PC P f (gB ρ args) (aK.zip res))/\k.holds P Post B (ρ++res)
 |B,ρ,.cond e a b=>((e.eval ρ).toBool=true->a.holds P Post B ρ)/\((e.eval ρ).toBool=false->b.holds P Post B ρ)
 |B,ρ,.Cz e a b=>((e.eval ρ).toList=[]->a.holds P Post B ρ)/\b.holds P Post B ρ
 |_,ρ,.ret rs=>Post (gB ρ rs)
 |B,ρ,.loop init body=>∃(I:List C->Prop) (μ:List C->Nat),I (init.map (·.eval ρ))/\
   ∀vs,vs.length=init.length->I vs->body.holds P Post (B++ [fun vs'=>I vs'/\μ vs'<μ vs]) (ρ++vs)
 |B,ρ,.jm lvl es=>(B.getD lvl fun _=>False) (es.map (·.eval ρ))
 |B,ρ,.cut n body rest=>∃I:List C->Prop,body.holds P Post (B++ [I]) ρ/\∀vs,vs.length=n->I vs->rest.holds P Post B (ρ++vs)
end Go.Vc
namespace Go.Vc
inductive SX where
 |none
 |jo (s:Sh) (e:E)
 |res (l:List (Sh×E))
 |DL (r:Nat) (n:E) (l:List (Sh×E))
 |full (r:Nat) (n:E)
 |view (r:Nat) (off n:E)
 |ref (r:Nat) (i:E) (fo:Nat) (s:Sh) (eG:Option Nat)
 |ptr (s:Sh) (e:E)
 |fn (f:Nat)
 |FN (e:E)
 |Ac (t:TypeId) (s:Sh) (name:String)
 |xG (r:Nat)
 |AB (r:Nat)
 |Cr (s p:E)
 |okF
 deriving DecidableEq
structure TS where
 dO:bq
 sx:SX
 deriving DecidableEq
inductive LB where
 |none
 |dead
 |row (s:Sh) (e:E)
 |box (cs:List SX)
 |mp (k:IntKind) (s:Sh) (e:E)
 |sit (s p:E)
 deriving DecidableEq
structure aL where
 lb:LB
 iK:Bool
 dO:bq
 deriving DecidableEq
structure SS where
 tmps:List TS
 jd:List aL
 nv:Nat
 deriving DecidableEq
inductive Ob where
 |ak (p:bq) (e:E)
 |call (p:bq) (f:Nat) (args:List (Sh×E)) (aK:List Sh)
def Ob.vars:Ob->Nat
 | .ak .. =>0
 | .call _ _ _ aK=>aK.length
inductive fV where
 |bM (r:Nat)
 |put (r:Nat) (b:aL)
structure Out where
 x:SX
 jq:List fV:=[]
 nv:Nat:=0
 ji:List Ob:=[]
def PV(P:Program):Nat->TypeId->Option Sh
 |0,_=>none
 |n+1,t=>
  match P.underlying t with
  |some .bool=>some .bool
  |some (.int k)=>some (.int k)
  |some .string=>some .str
  |some (.slice e)=>(PV P n e).map .sl
  |some (.struct fs)=>fs.toList.foldr (fun f acc=>match PV P n f.type,acc with|some a,some b=>some (.jc a b)|_,_=>none) (some .je)
  |some (.array k e)=>if k<=64 then(PV P n e).map fun s=>(List.replicate k s).foldr .jc .je else none
  |_=>none
def yP(P:Program)(t:TypeId):Option Sh:=PV P 8 t
def rV:Sh->List Value->Option (E×List Value)
 | .int k,.int k' n::r=>if k=k' then some (.int n,r)else none
 | .bool,.bool b::r=>some (.bool b,r)
 | .str,.string s::r=>some (.str s.data.toList,r)
 | .sl _,.slice none 0 0::r=>some (.bg,r)
 | .je,r=>some (.nil,r)
 | .jc a b,vs=>if b.isAgg then match rV a vs with
  |some (x,r)=>match rV b r with
   |some (y,r')=>some (.cons x y,r')
   |none=>none
  |none=>none
  else none
 |_,_=>none
def UG(s:Option Sh)(v:Value):Option SX:=
 match v,s with
 | .int k n,_=>some (.jo (.int k) (.int n))
 | .bool b,_=>some (.jo .bool (.bool b))
 | .string s,_=>some (.jo .str (.str s.data.toList))
 | .nilIface,_=>some (.jo .kP .nil)
 | .map none,_=>some .none
 | .slice none 0 0,some (.sl e)=>some (.jo (.sl e) .bg)
 | .agg cs,some s=>if s.isAgg then match rV s cs.toList with|some (e,[])=>some (.jo s e)|_=>none else none
 |_,_=>none
structure RB where
 lb:LB
 dO:bq
abbrev Ev:=bq->Operand->TypeId->Option SX
abbrev Rb:=Nat->Option RB
def rowOf(rb:Rb)(pc:bq)(r:Nat):Option (Sh×E):=
 match rb r with
 |some ⟨.row s e,p⟩=>if zF p pc then some (s,e)else none
 |_=>none
def mapOf(rb:Rb)(pc:bq)(r:Nat):Option (IntKind×Sh×E):=
 match rb r with
 |some ⟨.mp k s e,p⟩=>if zF p pc then some (k,s,e)else none
 |_=>none
def Py:E->E| .bg=> .nil|e=>e
def lg(rb:Rb)(pc:bq):SX->Option (Sh×E×List Nat)
 | .jo s e=>some (s,e,[])
 | .full r _=>match rowOf rb pc r with|some (s,e)=>some (.sl s,Py e,[r])|none=>none
 | .view r off n=>match rowOf rb pc r with|some (s,e)=>some (.sl s,.sub e off (.raw .add off n),[r])|none=>none
 | .fn f=>some (.fH f,.nil,[])
 | .xG r=>match mapOf rb pc r with|some (k,s,e)=>some (.mp k s,e,[r])|none=>none
 |_=>none
def Sh.iQ:Sh->Bool
 | .int _| .bool| .str| .je| .kP| .fH _=>true
 | .sl _| .mp _ _=>false
 | .jc a b=>a.iQ&&b.iQ
 | .dB _ _=>false
def Ab:E->E| .cons h _=>h|e=> .hd e
def Aa:E->E| .cons _ t=>t|e=> .tl e
def FW(e:E):Nat->E|0=>Ab e|j+1=>FW (Aa e) j
def flat:Sh->E->List SX
 | .je,_=> []
 | .jc a b,e=>flat a (Ab e)++flat b (Aa e)
 |s,e=> [.jo s e]
def uK(rb:Rb)(pc:bq)(s:Sh):List SX->Option (E×List Nat×List SX)
 | []=>none
 |x::l=>match lg rb pc x with
  |some (s',e,f)=>if s=s' then some (e,f,l)else none
  |none=>none
def fT(rb:Rb)(pc:bq):Sh->List SX->Option (E×List Nat×List SX)
 | .je,l=>some (.nil,[],l)
 | .jc a b,l=>if b.isAgg then match fT rb pc a l with
  |some (x,f,r)=>match fT rb pc b r with
   |some (y,g,r')=>some (.cons x y,f++g,r')
   |none=>none
  |none=>none
  else none
 |s,cs=>uK rb pc s cs
def Va(P:Program)(t:TypeId):Bool:=match P.underlying t with|some (.struct _)|some (.array _ _)=>true|_=>false
def kL(P:Program)(t:TypeId)(s:Sh):Bool:=(P.info? t).isSome&&(P.underlying t).isSome&&P.cellsOf t==s.size&&Va P t==s.isAgg
def rY(P:Program)(t:TypeId):Option TypeId:=match P.underlying t with|some (.slice e)=>some e|_=>none
def zeroE(P:Program)(t:TypeId)(s:Sh):Option E:=
 match(P.info? t).bind (·.zero)with
 |some v=>match rV s v.cells.toList with|some (e,[])=>some e|_=>none
 |none=>none
def ak(pc:bq)(e:E):List Ob:=
 match e with
 | .cmp .geq (.int a) (.int b)=>if a≥b then []else [.ak pc e]
 | .cmp .neq (.int a) (.int b)=>if a !=b then []else [.ak pc e]
 | .cmp .leq (.int a) (.int b)=>if a<=b then []else [.ak pc e]
 |_=> [.ak pc e]
def EO(P:Program)(f:Field)(s:Sh)(off:Nat):Bool:=f.offset=off&&kL P f.type s
def eqFields(P:Program)(R:TypeId->Sh->Bool):List Field->Sh->Nat->Bool
 | [],.je,_=>true
 |f::fs,.jc a b,off=>EO P f a off&&f.name != "_" &&R f.type a&&eqFields P R fs b (off+a.size)
 |_,_,_=>false
def IW(P:Program):Nat->TypeId->Sh->Bool
 |0,_,_=>false
 |n+1,t,s=>
  match P.underlying t,s with
  |some .bool,.bool=>true
  |some (.int k),.int k'=>k=k'
  |some .string,.str=>true
  |some (.struct fs),s=> !P.stoodInHeld t&&eqFields P (IW P n) fs.toList s 0
  |_,_=>false
def BS(P:Program)(raw:Bool)(pc:bq)(op:BinOp)(xt:TypeId)(s:Sh)(x:E)(s':Sh)(y:E):Option Out:=
 match s,s' with
 | .int k,.int k'=>
  match op with
  | .shl| .shr=>some {x:=.jo (.int k) (.bin op k x y),ji:=ak pc (.cmp .geq y (.int 0))}
  |_=>
   if k≠k' then none else
   match op with
   | .add| .sub| .mul=>
    if raw&&k==.i64 then some {x:=.jo (.int k) (.raw op x y),ji:=[.ak pc (.fits k (.raw op x y))]}
    else some {x:=.jo (.int k) (.bin op k x y)}
   | .quo| .rem=>some {x:=.jo (.int k) (.bin op k x y),ji:=ak pc (.cmp .neq y (.int 0))}
   | .and| .or| .xor| .andNot=>some {x:=.jo (.int k) (.bin op k x y)}
   |_=>some {x:=.jo .bool (.cmp op x y)}
 | .str,.str=>
  match op with
  | .add=>some {x:=.jo .str (.cat x y),ji:=[.ak pc (.fits .i64 (.raw .add (.gG x) (.gG y)))]}
  | .eql| .neq| .lss| .leq| .gtr| .geq=>some {x:=.jo .bool (.tX op x y)}
  |_=>none
 | .bool,.bool=>
  match P.underlying xt,op with
  |some .bool,.eql=>some {x:=.jo .bool (.beq x y)}
  |some .bool,.neq=>some {x:=.jo .bool (.not (.beq x y))}
  |_,_=>none
 | .sl _,.sl _=>
  match op,y,P.underlying xt with
  | .eql,.bg,some (.slice _)=>some {x:=.FN x}
  |_,_,_=>none
 |s,s'=>
  if s=s'&&s.isAgg&&IW P 5 xt s&& !P.eqGuardType P.depth xt then match op with
   | .eql=>some {x:=.jo .bool (.Cx s x y)}
   | .neq=>some {x:=.jo .bool (.not (.Cx s x y))}
   |_=>none
  else none
def G5(pc:bq)(i n:E):List Ob:=ak pc (.cmp .geq i (.int 0))++ak pc (.cmp .lss i n)
def Io(pc:bq)(lo hi n:E):List Ob:=ak pc (.cmp .geq lo (.int 0))++(ak pc (.cmp .leq lo hi)++ak pc (.cmp .leq hi n))
def r9:E->E
 | .nil=> .int 0
 | .bg=> .int 0
 | .cons _ t=>match r9 t with| .int n=> .int (n+1)|_=> .len (.cons (.int 0) t)
 |e=> .len e
def pK(ev:Ev)(rb:Rb)(pc:bq):List Operand->List TypeId->Option (List (Sh×E)×List Nat)
 | [],_=>some ([],[])
 |x::xs,ts=>match(ev pc x (ts.headD 0)).bind (lg rb pc),pK ev rb pc xs ts.tail with
  |some (s,e,f),some (l,g)=>some ((s,e)::l,f++g)
  |_,_=>none
def Fw(P:Program)(t:TypeId):Option (List Sh):=
 match P.underlying t with
 |some (.tuple ts)=>ts.toList.mapM (yP P)
 |_=>(yP P t).map ([·])
def tu:Option SX->Option (IntKind×E)
 |some (.jo (.int k) e)=>some (k,e)
 |_=>none
def Iq:List E->E| []=> .nil|e::l=> .cons e (Iq l)
def fieldsOf:Sh->E->Option (List (Sh×E))
 | .je,_=>some []
 | .jc a b,e=>(fieldsOf b (Aa e)).map ((a,Ab e)::·)
 |_,_=>none
def qj(ev:Ev)(rb:Rb)(pc:bq)(ft:Nat->TypeId):List (Sh×E)->List (Nat×Operand)->Option (List (Sh×E)×List Nat)
 |l,[]=>some (l,[])
 |l,(i,o)::r=>match(ev pc o (ft i)).bind (lg rb pc),l[i]? with
  |some (s,e,f),some (s',_)=>if s=s' then(qj ev rb pc ft (l.set i (s,e)) r).map fun(l,g)=>(l,f++g)else none
  |_,_=>none
def qM(ev:Ev)(rb:Rb)(pc:bq)(t:TypeId)(s:Sh):Nat->List (Nat×Operand)->Option (E×List Nat)
 |_,[]=>some (.nil,[])
 |k,(i,o)::r=>if i≠k then none else match(ev pc o t).bind (lg rb pc),qM ev rb pc t s (k+1) r with
  |some (s',e,f),some (es,g)=>if s=s' then some (.cons e es,f++g)else none
  |_,_=>none
def Le(c:Option SX)(a b:E->Option SX):Option Out:=
 match c with
 |some (.jo .bool ec)=>match a ec,b ec with
  |some (.jo s ea),some (.jo s' eb)=>if s=s' then some {x:=.jo s (.ite ec ea eb)}else none
  |_,_=>none
 |_=>none
def Mh(op:UnOp)(x:Option SX):Option Out:=
 match op,x with
 | .not,some (.jo .bool e)=>some {x:=.jo .bool (.not e)}
 | .neg,some (.jo (.int k) e)=>some {x:=.jo (.int k) (.bin .sub k (.int 0) e)}
 | .xor,some (.jo (.int k) e)=>some {x:=.jo (.int k) (.Iy k e)}
 |_,_=>none
def Ip(P:Program)(rb:Rb)(pc:bq)(src dst:TypeId)(x:Option SX):Option Out:=
 match P.underlying src,P.underlying dst,x with
 |some _,some (.int k),some (.jo (.int _) e)=>some {x:=.jo (.int k) (.conv k e)}
 |some .string,some .string,some (.jo .str e)=>some {x:=.jo .str e}
 |some (.slice t),some .string,some x=>match P.underlying t,lg rb pc x with
  |some (.int .u8),some (.sl (.int .u8),e,_)=>some {x:=.jo .str (.jk e)}
  |_,_=>none
 |some .string,some (.slice t),some (.jo .str e)=>match P.underlying t with
  |some (.int .u8)=>some {x:=.jo (.sl (.int .u8)) (.ofStr e),ji:=[.ak pc (.fits .i64 (.gG e))]}
  |_=>none
 |_,_,_=>none
def KU(P:Program)(t:TypeId)(j:Nat)(x:Option SX):Option Out:=
 match x,P.underlying t with
 |some (.jo s e),some (.struct fs)=>match s.eG j,fs[j]? with
  |some (s',off),some f=>if EO P f s' off then some {x:=.jo s' (FW e j)}else none
  |_,_=>none
 |_,_=>none
def Ba(P:Program):List Field->Sh->Nat->Bool
 | [],.je,_=>true
 |f::fs,.jc a b,off=>EO P f a off&&Ba P fs b (off+a.size)
 |_,_,_=>false
def ahP(P:Program)(t:TypeId):Option (List Field):=
 match P.underlying t with
 |some (.struct fs)=>some fs.toList
 |some (.array n e)=>if(P.info? e).isSome then some ((List.range n).map fun i=> {(default:Field)with type:=e,offset:=i*P.cellsOf e})else none
 |_=>none
def ET(P:Program)(ev:Ev)(rb:Rb)(pc:bq)(t:TypeId)(parts:List (Nat×Operand)):Option Out:=
 match yP P t,ahP P t with
 |some s,some fs=>
  if Ba P fs s 0&&kL P t s then
   match(zeroE P t s).bind (fieldsOf s)with
   |some l=>match qj ev rb pc (fun j=>((fs[j]?).map (·.type)).getD 0) l parts with
    |some (l,f)=>some {x:=.jo s (Iq (l.map (·.2))),jq:=f.map .bM}
    |none=>none
   |none=>none
  else none
 |_,_=>none
def EG(P:Program)(ev:Ev)(rb:Rb)(pc:bq)(t:TypeId)(len:Nat)(parts:List (Nat×Operand)):Option Out:=
 match rY P t with
 |none=>none
 |some et=>match yP P et with
  |none=>none
  |some s=>
   if kL P et s&&s.size !=0&&parts.length=len&&len*s.size<=2^24&&((P.info? et).bind (·.zero)).isSome then
    match qM ev rb pc et s 0 parts with
    |some (e,f)=>some {x:=.jo (.sl s) e,jq:=f.map .bM}
    |none=>none
   else none
def jU(rb:Rb)(d:Nat):Bool:=match rb d with|some ⟨.none,_⟩=>true|_=>false
def EJ(P:Program)(ev:Ev)(rb:Rb)(pc:bq)(t:TypeId)(len:Nat)(dst:Option Tmp)(parts:List (Nat×Operand)):Option Out:=
 match rY P t,dst with
 |some et,some d=>match yP P et with
  |none=>none
  |some s=>
   if jU rb d&&kL P et s&&s.size !=0&&parts.length=len&&len*s.size<=2^24&&((P.info? et).bind (·.zero)).isSome then
    match qM ev rb pc et s 0 parts with
    |some (e,[])=>some {x:=.full d (.int len),jq:=[.put d ⟨.row s e,false,pc⟩]}
    |_=>none
   else none
 |_,_=>none
def Fp(P:Program)(rb:Rb)(pc:bq)(t:TypeId)(dst:Option Tmp):Option Out:=
 match yP P t,dst with
 |some s,some d=>match zeroE P t s with
  |some e=>if jU rb d&&kL P t s&&s.size !=0 then some {x:=.ref d (.int 0) 0 s none,jq:=[.put d ⟨.box (flat s e),false,pc⟩]}else none
  |none=>none
 |_,_=>none
def IZ(P:Program)(rb:Rb)(pc:bq)(t:TypeId)(dst:Option Tmp)(x:Option SX):Option Out:=
 match x,dst with
 |some (.jo s e),some d=>if jU rb d&&kL P t s then some {x:=.ref d (.int 0) 0 s none,jq:=[.put d ⟨.box (flat s e),false,pc⟩]}else none
 |some (.full r n),some d=>match rowOf rb pc r with
  |some (s,_)=>if jU rb d&&kL P t (.sl s)then some {x:=.ref d (.int 0) 0 (.sl s) none,jq:=[.put d ⟨.box [.full r n],false,pc⟩]}else none
  |none=>none
 |_,_=>none
def BF(P:Program)(rb:Rb)(pc:bq)(t:TypeId)(a:Option SX):Option Out:=
 match a with
 |some (.ptr s e)=>if kL P t s then some {x:=.jo s e}else none
 |some (.ref r i fo s eG)=>
  if kL P t s then match rb r with
   |some ⟨.row es e,p⟩=>
    if zF p pc then match eG with
     |none=>if s=es then some {x:=.jo s (.idx e i)}else none
     |some j=>if es.eG j=some (s,fo)then some {x:=.jo s (FW (.idx e i) j)}else none
    else none
   |some ⟨.box cs,p⟩=>
    if zF p pc then
     if s.isAgg then match fT rb pc s (cs.drop fo)with
      |some (e,f,_)=>some {x:=.jo s e,jq:=f.map .bM}
      |none=>none
     else match cs[fo]? with
      |some x=>some {x}
      |none=>none
    else none
   |_=>none
  else none
 |_=>none
def rA(rb:Rb)(pc:bq)(r:Nat):Bool:=match rb r with|some ⟨.row ..,p⟩|some ⟨.box _,p⟩=>zF p pc|_=>false
def IG(rb:Rb)(pc:bq)(x:Option SX):Option Out:=
 match x with
 |some (.ref r i fo s eG)=>if rA rb pc r then some {x:=.ref r i fo s eG}else none
 |some (.ptr s e)=>some {x:=.ptr s e}
 |some (.fn f)=>some {x:=.fn f}
 |_=>none
def OB(P:Program)(f:Field)(s:Sh)(off:Nat):Bool:=f.offset=off&&s.size !=0&&(P.info? f.type).isSome&&P.cellsOf f.type=s.size
def H6(P:Program)(rb:Rb)(pc:bq)(st:TypeId)(j:Nat)(x:Option SX):Option Out:=
 match x,P.underlying st with
 |some (.ref r i fo s none),some (.struct fs)=>match s.eG j,fs[j]? with
  |some (s',off),some f=>if OB P f s' off&&rA rb pc r then match rb r with
    |some ⟨.row ..,_⟩=>if fo=0 then some {x:=.ref r i off s' (some j)}else none
    |some ⟨.box ..,_⟩=>some {x:=.ref r i (fo+off) s' none}
    |_=>none
   else none
  |_,_=>none
 |some (.ptr s e),some (.struct fs)=>match s.eG j,fs[j]? with
  |some (s',off),some f=>if OB P f s' off then some {x:=.ptr s' (FW e j)}else none
  |_,_=>none
 |_,_=>none
def wK(P:Program)(et:TypeId)(s:Sh):Bool:=(P.info? et).isSome&&P.cellsOf et=s.size
def Bo(P:Program)(rb:Rb)(pc:bq)(t:TypeId)(x:Option SX)(i:Option (IntKind×E)):Option Out:=
 match rY P t,x,i with
 |some et,some (.jo (.sl s) e),some (_,i)=>if wK P et s then some {x:=.ptr s (.idx e i),ji:=G5 pc i (r9 e)}else none
 |some et,some (.full r n),some (_,i)=>match rowOf rb pc r with
  |some (s,_)=>if wK P et s then some {x:=.ref r i 0 s none,ji:=G5 pc i n}else none
  |none=>none
 |some et,some (.view r off n),some (_,i)=>match rowOf rb pc r with
  |some (s,_)=>if wK P et s then some {x:=.ref r (.raw .add off i) 0 s none,ji:=G5 pc i n}else none
  |none=>none
 |_,_,_=>none
def BX(P:Program)(rb:Rb)(pc:bq)(t:TypeId)(x:Option SX)(i:Option (IntKind×E)):Option Out:=
 match x,i,P.underlying t with
 |some (.ref r i0 0 s none),some (_,.int j),some (.array n e)=>match s.eG j.toNat with
  |some (s',off)=>if(decide (0<=j)&&decide (j<n))&&(wK P e s'&&(off==j.toNat*s'.size&&rA rb pc r))then some {x:=.ref r i0 off s' (some j.toNat)}else none
  |none=>none
 |_,_,_=>none
def Bw(P:Program)(rb:Rb)(pc:bq)(t:TypeId)(x:Option SX)(i:Option (IntKind×E)):Option Out:=
 match rY P t with
 |none=>BX P rb pc t x i
 |some _=>Bo P rb pc t x i
def KO(P:Program)(pc:bq)(t:TypeId)(x:Option SX)(i:Option (IntKind×E)):Option Out:=
 match P.underlying t,x,i with
 |some .string,some (.jo .str e),some (_,i)=>some {x:=.jo (.int .u8) (.BM e i),ji:=G5 pc i (.gG e)}
 |_,_,_=>none
def wL(ev:Ev)(pc:bq)(d:E)(o:Option Operand):Option E:=
 match o with
 |none=>some d
 |some o=>match tu (ev pc o 0)with|some (_,e)=>some e|none=>none
def EZ(P:Program)(ev:Ev)(rb:Rb)(pc:bq)(t:TypeId)(x:Option SX)(lo hi:Option Operand):Option Out:=
 match P.underlying t,x,wL ev pc (.int 0) lo with
 |some .string,some (.jo .str e),some lo=>match wL ev pc (.gG e) hi with
  |some hi=>some {x:=.jo .str (.zX e lo hi),ji:=Io pc lo hi (.gG e)}
  |none=>none
 |some (.slice et),some (.jo (.sl s) e),some lo=>if wK P et s then match wL ev pc (r9 e) hi with
   |some hi=>some {x:=.jo (.sl s) (.sub e lo hi),ji:=Io pc lo hi (r9 e)}
   |none=>none
  else none
 |some (.slice et),some (.full r n),some lo=>match rowOf rb pc r,wL ev pc n hi with
  |some (s,_),some hi=>if wK P et s then some {x:=.view r lo (.raw .sub hi lo),ji:=Io pc lo hi n}else none
  |_,_=>none
 |some (.slice et),some (.view r off n),some lo=>match rowOf rb pc r,wL ev pc n hi with
  |some (s,_),some hi=>if wK P et s then some {x:=.view r (.raw .add off lo) (.raw .sub hi lo),ji:=Io pc lo hi n}else none
  |_,_=>none
 |_,_,_=>none
def FD(P:Program)(rb:Rb)(pc:bq)(t:TypeId)(dst:Option Tmp)(l c:Option (IntKind×E)):Option Out:=
 match rY P t,l,c,dst with
 |some et,some (_,l),some (_,c),some d=>match yP P et with
  |none=>none
  |some s=>match zeroE P et s with
   |some z=>if jU rb d&&kL P et s&&s.size !=0&&P.bytesOf et !=0 then some {x:=.full d l,jq:=[.put d ⟨.row s (.rep l z),false,pc⟩],ji:=ak pc (.cmp .geq l (.int 0))++(ak pc (.cmp .leq l c)++ak pc (.cmp .leq (.raw .mul (.int (P.bytesOf et)) c) (.int 281474976710656)))}else none
   |none=>none
 |_,_,_,_=>none
def II(P:Program)(rb:Rb)(pc:bq)(t:TypeId)(x:Option SX):Option Out:=
 match P.underlying t,x with
 |some .string,some (.jo .str e)=>some {x:=.jo (.int .i64) (.gG e)}
 |some (.slice _),some (.jo (.sl _) e)=>some {x:=.jo (.int .i64) (r9 e)}
 |some (.slice _),some (.full r n)=>match rowOf rb pc r with|some _=>some {x:=.jo (.int .i64) n}|none=>none
 |some (.slice _),some (.view r _ n)=>match rowOf rb pc r with|some _=>some {x:=.jo (.int .i64) n}|none=>none
 |_,_=>none
def Eb(f:E->E->E)(x y:Option SX):Option Out:=
 match x,y with
 |some (.jo (.int k) a),some (.jo (.int k') b)=>if k=k' then some {x:=.jo (.int k) (f a b)}else none
 |_,_=>none
def jZ(nv:Nat):List Sh->List (Sh×E)
 | []=> []
 |s::l=>(s,.vq nv)::jZ (nv+1) l
def IE:List (Sh×E)->SX
 | [(s,e)]=> .jo s e
 |l=> .res l
def Di:Sh->E->E
 | .sl _,_=> .bg
 | .je,_=> .nil
 | .jc a b,e=> .cons (Di a (Ab e)) (Di b (Aa e))
 |_,e=>e
def BI(P:Program)(ev:Ev)(rb:Rb)(pc:bq)(nv:Nat)(t:TypeId)(f:Nat)(args:List Operand)(ts:List TypeId):Option Out:=
 match pK ev rb pc args ts,Fw P t with
 |some (l,_),some [s]=>some {x:=.jo s (Di s (.vq nv)),nv:=1,ji:=[.call pc (3000000+f) l [s]]}
 |_,_=>none
def BH(P:Program)(aK:Option (List Sh))(ev:Ev)(rb:Rb)(pc:bq)(nv:Nat)(f:Nat)(args:List Operand)(ts:List TypeId):Option Out:=
 match pK ev rb pc args ts,aK with
 |some (l,bM),some aK=>if f<1000000 then some {x:=IE (jZ nv aK),jq:=if aK.all Sh.iQ then []else bM.map .bM,nv:=aK.length,ji:=[.call pc f l aK]}else none
 |_,_=>none
def xR(P:Program)(ev:Ev)(rb:Rb)(pc:bq)(b:Builtin)(args:List Operand)(ts:Array TypeId):Option Out:=
 match b,args,ts.toList with
 | .len,[x],[t]=>II P rb pc t (ev pc x t)
 | .min,[x,y],_=>Eb .qR (ev pc x (ts.getD 0 0)) (ev pc y (ts.getD 0 0))
 | .max,[x,y],_=>Eb .FQ (ev pc x (ts.getD 0 0)) (ev pc y (ts.getD 0 0))
 |_,_,_=>none
def GN(p:bq):Bool:=p.any fun x=>match x.1 with| .bool b=>b !=x.2|_=>false
def E8(P:Program)(t:TypeId)(name:String):Option FuncId:=
 match P.info? t,P.underlying t with
 |some i,some d=>match i.methods.find? (·.name==name)with
  |some m=>match m.func with
   |some (f,false)=>if m.path.toList.isEmpty&& !(match d with| .pointer _=>true|_=>false)then some f else none
   |_=>none
  |none=>none
 |_,_=>none
def yB(e:E):E:=.ite (.bool true) e e
def hasAll(P:Program)(want:Array (String×TypeId))(t:TypeId):Option Bool:=(P.info? t).map fun i=>((want.toList.filter fun x=> !i.methods.any fun m=>m.name==x.1&&m.sig==x.2).map (·.1)).isEmpty
def yw(P:Program)(o:Oper)(pc:bq)(ev:Ev):Option Out:=
 match o.op with
 | .makeInterface t x=>match ev pc x t,P.underlying t with
  |some (.jo s e),some d=>if(match d with| .interface _=>true|_=>false)then none else some {x:=.jo (.dB t s) e}
  |_,_=>none
 | .makeFunc (.method name) first captured=>match first.toList,captured.toList with
  | [x],[]=>match ev pc x 0 with|some (.jo (.dB t s) _)=>some {x:=.Ac t s name}|_=>none
  |_,_=>none
 | .nilCheck x=>match ev pc x 0 with
  |some (.Ac t s name)=>if(E8 P t name).isSome then some {x:=.Ac t s name}else none
  |_=>none
 | .extract t i=>match ev pc t 0,i with
  |some (.Cr s p),0=>some {x:=.jo .bool (.cmp .lss p (.gG s))}
  |some (.Cr s p),1=>some {x:=.jo (.int .i64) p,ji:=[.ak pc (.cmp .lss p (.gG s))]}
  |some (.Cr s p),2=>some {x:=.jo (.int .i32) (.zW s p),ji:=[.ak pc (.cmp .lss p (.gG s))]}
  |some .okF,0=>some {x:=.none}
  |some .okF,1=>some {x:=.jo .bool (.bool false)}
  |_,_=>none
 | .typeAssert x _ ty ok=>match ev pc x 0,P.underlying ty with
  |some (.jo (.dB t s) e),some (.interface want)=>match hasAll P want t with
   |some true=>if ok then some {x:=.res [(.dB t s,e),(.bool,.bool true)]}else some {x:=.jo (.dB t s) e}
   |some false=>if ok&&((P.info? ty).bind (·.zero)).isSome then some {x:=.okF}else none
   |none=>none
  |some (.jo (.dB t s) e),some _=>
   if t=ty then(if ok then some {x:=.res [(s,yB e),(.bool,.bool true)]}else some {x:=.jo s (yB e)})
   else if ok&&((P.info? ty).bind (·.zero)).isSome then some {x:=.okF}else none
  |some (.jo .kP _),some _=>if ok&&((P.info? ty).bind (·.zero)).isSome then some {x:=.okF}else none
  |_,_=>none
 | .binOp op xt x y _=>match op,ev pc x xt,y,P.underlying xt with
  | .eql,some (.jo (.dB _ _) _),.const .nilIface,some (.interface _)=>some {x:=.jo .bool (.bool false)}
  | .neq,some (.jo (.dB _ _) _),.const .nilIface,some (.interface _)=>some {x:=.jo .bool (.bool true)}
  | .eql,some (.jo .kP _),.const .nilIface,some (.interface _)=>some {x:=.jo .bool (.bool true)}
  | .neq,some (.jo .kP _),.const .nilIface,some (.interface _)=>some {x:=.jo .bool (.bool false)}
  |_,_,_,_=>none
 | .pick c a b=>match ev pc c 0 with
  |some (.jo .bool (.bool true))=>match ev pc a o.type with|some x=>some {x}|none=>none
  |some (.jo .bool (.bool false))=>match ev pc b o.type with|some x=>some {x}|none=>none
  |_=>none
 |_=>none
structure fF where
 raw:Bool
 rows:List Nat
 grow:List Nat:=[]
 fresh:List Nat:=[]
 LJ:List Nat:=[]
 keeps:List Nat:=[]
 aK:List (Nat×List Sh):=[]
 marks:List Nat:=[]
 cuts:List Nat:=[]
def fF.owns(cfg:fF)(f:Nat):Bool:=cfg.grow.contains f||cfg.fresh.contains f
def agK(cfg:fF)(o:Oper)(len:Nat):Bool:=len=0||(match o.dst with|some d=>cfg.rows.contains d|none=>false)
def fF.aiP(cfg:fF)(P:Program)(f:Nat)(t:TypeId):Option (List Sh):=
 match cfg.aK.find? (·.1==f)with
 |some (_,l)=>some l
 |none=>Fw P t
def uL(P:Program)(cfg:fF)(ev:Ev)(rb:Rb)(pc:bq)(nv:Nat)(t:TypeId)(f:Nat)(pre:List (Sh×E))(args:List Operand)(ts:List TypeId):Option Out:=
 match pK ev rb pc args ts,cfg.aiP P f t with
 |some (l,bM),some aK=>if f<1000000 then some {x:=IE (jZ nv aK),jq:=if aK.all Sh.iQ then []else bM.map .bM,nv:=aK.length,ji:=[.call pc f (pre++l) aK]}else none
 |_,_=>none
def LK(P:Program)(t:TypeId):Option (IntKind×TypeId):=
 match P.underlying t with
 |some (.map k e)=>match P.underlying k with|some (.int kk)=>some (kk,e)|_=>none
 |_=>none
def Ik(rb:Rb)(pc:bq):Option SX->Option (IntKind×Sh×E)
 |some (.jo (.mp k s) e)=>some (k,s,e)
 |some (.xG r)=>mapOf rb pc r
 |_=>none
def Vl(P:Program)(t:TypeId)(s:Sh):Option E:=
 match(P.info? t).bind (·.zero)with
 |some v=>match rV s [v]with|some (e,[])=>some e|_=>none
 |none=>none
def vg(P:Program)(cfg:fF)(o:Oper)(pc:bq)(ev:Ev)(rb:Rb)(nv:Nat):Option Out:=
 match o.op with
 | .call {callee:=.invoke x name,args,argTypes}=>match ev pc x 0 with
  |some (.jo (.dB t s) e)=>match E8 P t name with
   |some f=>uL P cfg ev rb pc nv o.type f [(s,e)] args.toList argTypes.toList
   |none=>none
  |_=>none
 | .call {callee:=.value (.func _),.. }=>none
 | .call {callee:=.value x,args,argTypes}=>match ev pc x 0 with
  |some (.jo (.fH f) _)=>uL P cfg ev rb pc nv o.type f [] args.toList argTypes.toList
  |_=>none
 | .lookup t m x ok=>match LK P t,tu (ev pc x 0),Ik rb pc (ev pc m t)with
  |some (kk,et),some (k',ek),some (Mq,s,e)=>
   if kk=k'&&kk=Mq&& !s.isAgg then match Vl P et s with
    |some z=>if ok then some {x:=.res [(s,yB (.jF e ek z)),(.bool,.vQ e ek)]}else some {x:=.jo s (yB (.jF e ek z))}
    |none=>none
   else none
  |_,_,_=>none
 | .makeMap t none=>match LK P t,o.dst with
  |some (kk,et),some d=>match yP P et with
   |some s=>if jU rb d&& !s.isAgg then some {x:=.xG d,jq:=[.put d ⟨.mp kk s .nil,false,pc⟩]}else none
   |none=>none
  |_,_=>none
 | .range t x=>match P.underlying t,ev pc x t,o.dst with
  |some .string,some (.jo .str e),some d=>if jU rb d then some {x:=.AB d,jq:=[.put d ⟨.sit e (.int 0),false,pc⟩]}else none
  |_,_,_=>none
 |_=>none
def nJ(P:Program)(cfg:fF)(o:Oper)(pc:bq)(ev:Ev)(rb:Rb)(nv:Nat):Option Out:=
 match o.op with
 | .move x| .assign x=>match ev pc x o.type with|some x=>some {x}|none=>none
 | .pick c a b=>Le (ev pc c 0) (fun ec=>ev (pc++ [(ec,true)]) a o.type) (fun ec=>ev (pc++ [(ec,false)]) b o.type)
 | .binOp op xt x y yt=>
  match ev pc x xt,ev pc y yt with
  |some (.jo s ex),some (.jo s' ey)=>BS P cfg.raw pc op xt s ex s' ey
  |_,_=>none
 | .unOp op _ x=>Mh op (ev pc x o.type)
 | .convert src dst x=>Ip P rb pc src dst (ev pc x src)
 | .extract t i=>match ev pc t 0 with
  |some (.res l)=>match l[i]? with|some (s,e)=>some {x:=.jo s e}|none=>none
  |some (.DL r n l)=>match i with
   |0=>some {x:=.full r n}
   |i+1=>match l[i]? with|some (s,e)=>some {x:=.jo s e}|none=>none
  |_=>none
 | .field t x j=>KU P t j (ev pc x t)
 | .build t parts=>ET P ev rb pc t parts.toList
 | .buildSlice t len parts=>if agK cfg o len then EJ P ev rb pc t len o.dst parts.toList else EG P ev rb pc t len parts.toList
 | .alloc t=>Fp P rb pc t o.dst
 | .box t x=>IZ P rb pc t o.dst (ev pc x t)
 | .load t a=>BF P rb pc t (ev pc a 0)
 | .nilCheck x=>IG rb pc (ev pc x 0)
 | .fieldAddr st x j=>H6 P rb pc st j (ev pc x 0)
 | .indexAddr t x i=>Bw P rb pc t (ev pc x t) (tu (ev pc i 0))
 | .index t x i=>KO P pc t (ev pc x t) (tu (ev pc i 0))
 | .slice t x lo hi none=>EZ P ev rb pc t (ev pc x t) lo hi
 | .makeSlice t l c=>FD P rb pc t o.dst (tu (ev pc l 0)) (tu (ev pc c 0))
 | .call {callee:=.builtin b,args,argTypes}=>xR P ev rb pc b args.toList argTypes
 | .call {callee:=.value (.func f),args,argTypes}=>if cfg.owns f then none else if cfg.LJ.contains f then BI P ev rb pc nv o.type f args.toList argTypes.toList else BH P (cfg.aiP P f o.type) ev rb pc nv f args.toList argTypes.toList
 |_=>vg P cfg o pc ev rb nv
def iI(P:Program)(cfg:fF)(o:Oper)(pc:bq)(ev:Ev)(rb:Rb)(nv:Nat):Option Out:=
 if GN pc then some {x:=.none}else match yw P o pc ev with
 |some out=>some out
 |none=>nJ P cfg o pc ev rb nv
def ownRow(bs:List aL)(r:Nat):Option (Sh×E):=match bs[r]? with|some ⟨.row s e,false,[]⟩=>some (s,e)|_=>none
def bT(bs:List aL):Rb:=fun r=>match bs[r]? with|some b=>some ⟨b.lb,b.dO⟩|none=>none
def og(f:List Nat)(bs:List aL):List aL:=f.foldl (fun bs r=>bs.modify r fun b=> {b with iK:=true}) bs
def JW(bs:List aL)(r:Nat)(es:Sh)(e i:E)(fo:Nat)(s:Sh)(eG:Option Nat)(x:SX):Option (List aL):=
 match lg (bT bs) [] x with
 |some (s',ex,f)=>
  if s=s'&& !f.contains r then
   match eG with
   |none=>if s=es then some ((og f bs).set r ⟨.row es (.set e i ex),false,[]⟩)else none
   |some j=>if es.eG j=some (s,fo)then some ((og f bs).set r ⟨.row es (.set e i (.rH j (.idx e i) ex)),false,[]⟩)else none
  else none
 |none=>none
def JY(bs:List aL)(r:Nat)(cs:List SX)(fo:Nat)(s:Sh)(x:SX):Option (List aL):=
 match x with
 | .jo s' ex=>if s=s'&&fo+s.size<=cs.length then some (bs.set r ⟨.box (cs.take fo++(flat s ex++cs.drop (fo+s.size))),false,[]⟩)else none
 | .full r' n=>match rowOf (bT bs) [] r' with
  |some (es,_)=>if s=.sl es&&fo<cs.length then some (bs.set r ⟨.box (cs.set fo (.full r' n)),false,[]⟩)else none
  |none=>none
 |_=>none
def KG(P:Program)(bs:List aL)(t:TypeId)(a x:Option SX):Option (List aL):=
 match a,x with
 |some (.ref r i fo s eG),some x=>if kL P t s then match bs[r]? with
   |some ⟨.row es e,false,[]⟩=>JW bs r es e i fo s eG x
   |some ⟨.box cs,false,[]⟩=>JY bs r cs fo s x
   |_=>none
  else none
 |_,_=>none
def zY(P:Program)(bs:List aL)(t:TypeId)(x:SX):Option (Sh×E×List Nat):=
 match x,P.underlying t with
 | .jo .str e,some .string=>some (.int .u8,.ofStr e,[])
 |x,some (.slice _)=>match lg (bT bs) [] x with|some (.sl s,e,f)=>some (s,e,f)|_=>none
 |_,_=>none
def uP(P:Program)(bs:List aL)(et t:TypeId)(x:SX):Option (Sh×E×List Nat):=
 match x,P.underlying t with
 | .jo (.int _) e,some (.int _)=>match yP P et with
  |some s=>match zeroE P et s with
   |some z=>some (s,.rep (.ite (.cmp .geq e (.int 0)) e (.int 1152921504606846976)) z,[])
   |none=>none
  |none=>none
 |x,_=>zY P bs t x
def tq(bs:List aL)(d:Nat):Bool:=match bs[d]? with|some ⟨.none,_,_⟩=>true|_=>false
def KC(P:Program)(keep:Bool)(bs:List aL)(ts:Array TypeId)(d:Nat)(a b:Option SX):Option (SX×List aL×List Ob):=
 match rY P (ts.getD 0 0),a,b with
 |some et,some sa,some sb=>
  match uP P bs et (ts.getD 1 0) sb with
  |none=>none
  |some (s,m,f)=>
   if ts.size=2&&(zeroE P et s).isSome&&kL P et s&&s.size !=0&&P.bytesOf et !=0 then
    match sa with
    | .jo (.sl s') .bg=>if s=s'&&tq bs d then some (.full d (r9 m),bs.set d ⟨.row s m,false,[]⟩,[.ak [] (.cmp .leq (.raw .mul (.len m) (.int (P.bytesOf et))) (.int 140737488355328))])else none
    | .full r n=>match ownRow bs r with
     |some (s',e)=>
      if keep then
       if s=s'&& !f.contains r then
        some (.jo (.sl s) (.app e m),bs.set r ⟨.row s e,true,[]⟩,[.ak [] (.cmp .leq (.raw .mul (.raw .add n (.len m)) (.int (P.bytesOf et))) (.int 140737488355328))])
       else none
      else if s=s'&& !f.contains r&&tq bs d then
       some (.full d (.raw .add n (r9 m)),(bs.set r ⟨.dead,false,[]⟩).set d ⟨.row s (.app e m),false,[]⟩,[.ak [] (.cmp .leq (.raw .mul (.raw .add n (.len m)) (.int (P.bytesOf et))) (.int 140737488355328))])
      else none
     |none=>none
    |_=>none
   else none
 |_,_,_=>none
def Qi:SX->Option (Nat×E×E)
 | .full r n=>some (r,.int 0,n)
 | .view r off n=>some (r,off,n)
 |_=>none
def Ll(P:Program)(bs:List aL)(ts:Array TypeId)(a b:Option SX):Option (SX×List aL):=
 match rY P (ts.getD 0 0),a,b with
 |some et,some sa,some sb=>
  match zY P bs (ts.getD 1 0) sb,Qi sa with
  |some (s,m,_),some (r,off,n)=>match ownRow bs r with
   |some (s',e)=>if s=s'&&kL P et s&&ts.size=2 then
     some (.jo (.int .i64) (.qR (r9 m) n),bs.set r ⟨.row s (.jr e off (.sub m (.int 0) n)),false,[]⟩)
    else none
   |none=>none
  |_,_=>none
 |_,_,_=>none
def Dz(P:Program)(bs:List aL)(t:TypeId)(x:Option SX):Option (Sh×E×Nat):=
 match rY P t,x with
 |some et,some (.full r _)=>match P.underlying et,ownRow bs r with
  |some (.int .u8),some (s,.cons x y)=>some (s,.cons x y,r)
  |_,_=>none
 |_,_=>none
def Dy(P:Program)(bs:List aL)(t:TypeId)(m:Option SX)(k:Option (IntKind×E))(x:Option SX):Option (Nat×aL):=
 match LK P t,m,k,x with
 |some (kk,_),some (.xG r),some (k',ek),some (.jo s' ex)=>match bs[r]? with
  |some ⟨.mp Mq s e,false,[]⟩=>if kk=k'&&kk=Mq&&s=s'&& !s.isAgg then some (r,⟨.mp kk s (.lQ e ek ex),false,[]⟩)else none
  |_=>none
 |_,_,_,_=>none
def Dx(bs:List aL)(it:Option SX):Option (SX×Nat×aL):=
 match it with
 |some (.AB r)=>match bs[r]? with
  |some ⟨.sit s p,false,[]⟩=>some (.Cr s p,r,⟨.sit s (.ite (.cmp .lss p (.gG s)) (.raw .add p (.Ah s p)) p),false,[]⟩)
  |_=>none
 |_=>none
def fF.keep(cfg:fF)(o:Oper):Bool:=match o.dst with|some d=>cfg.keeps.contains d|none=>false
def yR(P:Program)(cfg:fF)(o:Oper)(ev:Ev)(bs:List aL):Option (SX×List aL×List Ob):=
 match o.op with
 | .store t a x=>match KG P bs t (ev [] a 0) (ev [] x t)with|some bs=>some (.none,bs,[])|none=>none
 | .call {callee:=.builtin .append,args,argTypes}=>match args.toList,o.dst with
  | [a,b],some d=>KC P (cfg.keep o) bs argTypes d (ev [] a (argTypes.getD 0 0)) (ev [] b (argTypes.getD 1 0))
  |_,_=>none
 | .call {callee:=.builtin .copy,args,argTypes}=>match args.toList with
  | [a,b]=>match Ll P bs argTypes (ev [] a (argTypes.getD 0 0)) (ev [] b (argTypes.getD 1 0))with|some (x,bs)=>some (x,bs,[])|none=>none
  |_=>none
 | .convert src dst x=>if src=dst then match Dz P bs src (ev [] x src)with|some (s,e,r)=>some (.jo (.sl s) e,bs.set r ⟨.dead,false,[]⟩,[])|none=>none else none
 | .mapUpdate t m k x=>match Dy P bs t (ev [] m t) (tu (ev [] k 0)) (ev [] x 0)with|some (r,b)=>some (.none,bs.set r b,[])|none=>none
 | .next it true=>match Dx bs (ev [] it 0)with|some (x,r,b)=>some (x,bs.set r b,[])|none=>none
 |_=>none
def Bu(d nv:Nat)(aK:List Sh):SX:=if aK=[]then .full d (.len (.vq nv))else .DL d (.len (.vq nv)) (jZ (nv+1) aK)
def oQ(s:Sh)(aK:List Sh)(fz:List Nat):List Nat:=if s.iQ&&aK.all Sh.iQ then []else fz
def Im(P:Program)(ev:Ev)(bs:List aL)(nv:Nat)(t:TypeId)(d f:Nat)(args:List Operand)(ts:List TypeId):Option (SX×List aL×List Ob×Nat):=
 match Fw P t,args with
 |some (.sl s::aK),x0::xs=>
  match pK ev (bT bs) [] xs ts.tail with
  |some (l,fz)=>
   if s.size !=0&&(tq bs d&&f<1000000)then
    match ev [] x0 (ts.headD 0)with
    |some (.full r _)=>match ownRow bs r with
     |some (s',e)=>
      if s=s'&& !fz.contains r then
       some (Bu d nv aK,((og (oQ s aK fz) bs).set r ⟨.dead,false,[]⟩).set d ⟨.row s (.vq nv),false,[]⟩,[.call [] (1000000+f) ((.sl s,e)::l) (.sl s::aK)],1+aK.length)
      else none
     |none=>none
    |some (.jo (.sl s') .bg)=>
     if s=s' then some (Bu d nv aK,(og (oQ s aK fz) bs).set d ⟨.row s (.vq nv),false,[]⟩,[.call [] (1000000+f) ((.sl s,.bg)::l) (.sl s::aK)],1+aK.length)
     else none
    |_=>none
   else none
  |none=>none
 |_,_=>none
def Fg(P:Program)(ev:Ev)(bs:List aL)(nv:Nat)(t:TypeId)(d f:Nat)(args:List Operand)(ts:List TypeId):Option (SX×List aL×List Ob×Nat):=
 match Fw P t with
 |some (.sl s::aK)=>
  match pK ev (bT bs) [] args ts with
  |some (l,fz)=>
   if s.size !=0&&(tq bs d&&f<1000000)then
    some (Bu d nv aK,(og (oQ s aK fz) bs).set d ⟨.row s (.vq nv),false,[]⟩,[.call [] (2000000+f) l (.sl s::aK)],1+aK.length)
   else none
  |none=>none
 |_=>none
def yS(P:Program)(cfg:fF)(o:Oper)(ev:Ev)(bs:List aL)(nv:Nat):Option (SX×List aL×List Ob×Nat):=
 match o.op,o.dst with
 | .call {callee:=.value (.func f),args,argTypes},some d=>
  if cfg.grow.contains f then Im P ev bs nv o.type d f args.toList argTypes.toList
  else if cfg.fresh.contains f then Fg P ev bs nv o.type d f args.toList argTypes.toList
  else none
 |_,_=>none
inductive Cls where|P|R|A|L|W|G|call
 deriving DecidableEq
def cls(cfg:fF)(o:Oper):Cls:=
 match o.op with
 | .move _| .assign _| .pick .. | .binOp .. | .unOp .. | .extract .. | .field .. | .index .. | .makeInterface .. | .makeFunc .. | .typeAssert .. => .P
 | .alloc _| .makeSlice .. | .makeMap .. => .A
 | .range .. => .L
 | .mapUpdate .. | .next .. => .W
 | .convert .. =>if(match o.dst with|some d=>cfg.marks.contains d|none=>false)then .W else .R
 | .call {callee:=.invoke ..,.. }=> .call
 | .box .. => .L
 | .buildSlice _ len _=>if agK cfg o len then .L else .R
 | .store .. | .call {callee:=.builtin .append,.. }| .call {callee:=.builtin .copy,.. }=> .W
 | .call {callee:=.builtin .min,.. }| .call {callee:=.builtin .max,.. }=> .P
 | .call {callee:=.value (.func f),.. }=>if cfg.owns f then .G else .call
 | .call {callee:=.value _,.. }=> .call
 |_=> .R
def SS.ev(P:Program)(S:SS):Ev:=fun pc x t=>
 match x with
 | .tmp i=>match S.tmps[i]? with
  |some ts=>if zF ts.dO pc then some ts.sx else none
  |none=>none
 | .const v=>UG (yP P t) v
 | .func f=>some (.fn f)
 | .global _=>none
def SS.rb(S:SS):Rb:=bT S.jd
def wF(S:SS)(ops:List Oper)(o:Oper):Option bq:=
 match o.guard with
 |none=>some []
 |some (j,want)=>match((ops[j]?).bind (·.dst)).bind (S.tmps[·]?)with
  |some ⟨p,.jo .bool e⟩=>some (p++ [(e,want)])
  |_=>none
def fV.run:fV->List aL->List aL
 | .bM r,bs=>bs.modify r fun b=> {b with iK:=true}
 | .put r b,bs=>bs.set r b
def bP(cs:List fV)(bs:List aL):List aL:=cs.foldl (fun bs c=>c.run bs) bs
def eT(l:List TS)(d:Option Tmp)(t:TS):List TS:=match d with|some d=>l.set d t|none=>l
def iA(l:List Ob):Nat:=(l.map Ob.vars).sum
def uM(P:Program)(cfg:fF)(ops:List Oper)(o:Oper)(S:SS):Option (SS×List Ob):=
 match wF S ops o with
 |none=>none
 |some pc=>
  if cls cfg o=.W then
   if pc=[]then
    match yR P cfg o (S.ev P) S.jd with
    |some (x,bs,ji)=>if iA ji=0 then some ({S with tmps:=eT S.tmps o.dst ⟨[],x⟩,jd:=bs},ji)else none
    |none=>none
   else none
  else if cls cfg o=.G then
   if pc=[]then
    match yS P cfg o (S.ev P) S.jd S.nv with
    |some (x,bs,ji,n)=>if iA ji=n then some ({tmps:=eT S.tmps o.dst ⟨[],x⟩,jd:=bs,nv:=S.nv+n},ji)else none
    |none=>none
   else none
  else
   match iI P cfg o pc (S.ev P) S.rb S.nv with
   |some out=>if iA out.ji=out.nv then some ({tmps:=eT S.tmps o.dst ⟨pc,out.x⟩,jd:=bP out.jq S.jd,nv:=S.nv+out.nv},out.ji)else none
   |none=>none
def oM(P:Program)(cfg:fF)(ops:List Oper):List Oper->SS->Option (SS×List Ob)
 | [],S=>some (S,[])
 |o::r,S=>match uM P cfg ops o S with
  |none=>none
  |some (S1,ji)=>match oM P cfg ops r S1 with
   |none=>none
   |some (S2,V7)=>some (S2,ji++V7)
def ahm(P:Program)(cfg:fF)(ops:List Oper):Nat->List Oper->SS->Nat
 |n,[],_=>n
 |n,o::r,S=>match uM P cfg ops o S with|none=>n|some (S1,_)=>ahm P cfg ops (n+1) r S1
def E.subst(base:Nat)(es:List E):E->E
 | .vq i=>if i<base then .vq i else es.getD (i-base) (.vq i)
 | .int n=> .int n
 | .bool b=> .bool b
 | .str s=> .str s
 | .nil=> .nil
 | .bg=> .bg
 | .cons x y=> .cons (x.subst base es) (y.subst base es)
 | .hd x=> .hd (x.subst base es)
 | .tl x=> .tl (x.subst base es)
 | .rH j x y=> .rH j (x.subst base es) (y.subst base es)
 | .bin o k x y=> .bin o k (x.subst base es) (y.subst base es)
 | .raw o x y=> .raw o (x.subst base es) (y.subst base es)
 | .cmp o x y=> .cmp o (x.subst base es) (y.subst base es)
 | .tX o x y=> .tX o (x.subst base es) (y.subst base es)
 | .beq x y=> .beq (x.subst base es) (y.subst base es)
 | .not x=> .not (x.subst base es)
 | .ite x y z=> .ite (x.subst base es) (y.subst base es) (z.subst base es)
 | .conv k x=> .conv k (x.subst base es)
 | .Iy k x=> .Iy k (x.subst base es)
 | .len x=> .len (x.subst base es)
 | .gG x=> .gG (x.subst base es)
 | .idx x y=> .idx (x.subst base es) (y.subst base es)
 | .BM x y=> .BM (x.subst base es) (y.subst base es)
 | .sub x y z=> .sub (x.subst base es) (y.subst base es) (z.subst base es)
 | .zX x y z=> .zX (x.subst base es) (y.subst base es) (z.subst base es)
 | .app x y=> .app (x.subst base es) (y.subst base es)
 | .set x y z=> .set (x.subst base es) (y.subst base es) (z.subst base es)
 | .rep x y=> .rep (x.subst base es) (y.subst base es)
 | .jr x y z=> .jr (x.subst base es) (y.subst base es) (z.subst base es)
 | .jk x=> .jk (x.subst base es)
 | .ofStr x=> .ofStr (x.subst base es)
 | .cat x y=> .cat (x.subst base es) (y.subst base es)
 | .qR x y=> .qR (x.subst base es) (y.subst base es)
 | .FQ x y=> .FQ (x.subst base es) (y.subst base es)
 | .fits k x=> .fits k (x.subst base es)
 | .Cx s x y=> .Cx s (x.subst base es) (y.subst base es)
 | .jF x y z=> .jF (x.subst base es) (y.subst base es) (z.subst base es)
 | .vQ x y=> .vQ (x.subst base es) (y.subst base es)
 | .lQ x y z=> .lQ (x.subst base es) (y.subst base es) (z.subst base es)
 | .zW x y=> .zW (x.subst base es) (y.subst base es)
 | .Ah x y=> .Ah (x.subst base es) (y.subst base es)
def SX.bd(n:Nat):SX->Bool
 | .none| .fn _| .Ac .. | .xG _| .AB _| .okF=>true
 | .Cr s p=>s.bd n&&p.bd n
 | .jo _ e| .full _ e| .ref _ e _ _ _| .ptr _ e| .FN e=>e.bd n
 | .view _ a b=>a.bd n&&b.bd n
 | .res l=>l.all fun x=>x.2.bd n
 | .DL _ m l=>m.bd n&&l.all fun x=>x.2.bd n
def LB.bd(n:Nat):LB->Bool
 | .none| .dead=>true
 | .row _ e=>e.bd n
 | .box cs=>cs.all (·.bd n)
 | .mp _ _ e=>e.bd n
 | .sit s p=>s.bd n&&p.bd n
def SS.bd(S:SS)(n:Nat):Bool:=S.tmps.all (fun t=>zL n t.dO&&t.sx.bd n)&&S.jd.all fun b=>zL n b.dO&&b.lb.bd n
def Ob.bd(n:Nat):Ob->Bool
 | .ak p e=>zL n p&&e.bd n
 | .call p _ args _=>zL n p&&args.all fun x=>x.2.bd n
def Ij:Nat->List Ob->Bool
 |_,[]=>true
 |n,o::l=>o.bd n&&Ij (n+o.vars) l
def Lf:List Ob->VC->VC
 | [],k=>k
 | .ak p e::l,k=> .ak p e (Lf l k)
 | .call p f args aK::l,k=> .call p f args aK (Lf l k)
abbrev Ren:=List (Nat×Option Nat)
def ren(π:Ren)(r:Nat):Option (Option Nat):=(π.find? fun x=>x.1==r).map (·.2)
def rowAt(S:SS)(r:Nat):Option (Sh×E×Bool):=match S.jd[r]? with|some ⟨.row s e,f,[]⟩=>some (s,e,f)|_=>none
def PK(S:SS)(r:Nat):Option (List SX×Bool):=match S.jd[r]? with|some ⟨.box cs,f,[]⟩=>some (cs,f)|_=>none
def Pz(S:SS)(r:Nat):Option (IntKind×Sh×E×Bool):=match S.jd[r]? with|some ⟨.mp k s e,f,[]⟩=>some (k,s,e,f)|_=>none
def Ph(S:SS)(r:Nat):Option (E×E×Bool):=match S.jd[r]? with|some ⟨.sit s p,f,[]⟩=>some (s,p,f)|_=>none
def isLen(H:SS)(r:Nat)(n:E):Bool:=match rowAt H r with|some (_,e,_)=>decide (n=.len e)|none=>false
def Ia(base:Nat)(es:List E)(π:Ren)(H:SS):SX->SX->Bool
 | .none,_=>true
 | .jo s e,.jo s' e'=>decide (s=s')&&decide (e.subst base es=e')
 | .full r n,.full r' n'=>(rowAt H r).isSome&&decide (ren π r=some (some r'))&&(decide (n.subst base es=n')||isLen H r n)
 | .full r n,.jo (.sl s) .bg=>decide (ren π r=some none)&&((match rowAt H r with|some (s',_,_)=>decide (s=s')|none=>false)&&isLen H r n)
 | .view r off n,.view r' off' n'=>(rowAt H r).isSome&&decide (ren π r=some (some r'))&&(decide (off.subst base es=off')&&decide (n.subst base es=n'))
 | .ref r i fo s eG,.ref r' i' fo' s' akU=>decide (r=r')&&(PK H r).isSome&&(decide (i.subst base es=i')&&(decide (fo=fo')&&(decide (s=s')&&decide (eG=akU))))
 | .fn f,.fn f'=>decide (f=f')
 | .Ac t s n,.Ac t' s' n'=>decide (t=t')&&(decide (s=s')&&decide (n=n'))
 | .xG r,.xG r'=>decide (r=r')&&(Pz H r).isSome
 | .AB r,.AB r'=>decide (r=r')&&(Ph H r).isSome
 |_,_=>false
def EU(base:Nat)(es:List E)(π:Ren)(H:SS):List SX->List SX->Bool
 | [],[]=>true
 |x::l,y::m=>Ia base es π H x y&&EU base es π H l m
 |_,_=>false
def Ht(base:Nat)(es:List E)(π:Ren)(H:SS):List TS->List TS->Bool
 | [],[]=>true
 |x::l,y::m=>decide (x.dO=[])&&(decide (x.sx=.none)||(decide (y.dO=[])&&Ia base es π H x.sx y.sx))&&Ht base es π H l m
 |_,_=>false
def zQ(base:Nat)(es:List E)(π:Ren)(H S:SS)(r:Nat)(b:aL):Bool:=
 match b with
 |⟨.none,_,_⟩|⟨.dead,_,_⟩=>true
 |⟨.row s e,f,[]⟩=>match ren π r with
  |some (some r')=>match rowAt S r' with
   |some (s',e',f')=>decide (s=s')&&decide (e.subst base es=e')&&(f|| !f')
   |none=>false
  |some none=>decide (e.subst base es=.nil)&&s.size !=0
  |none=>false
 |⟨.box cs,f,[]⟩=>match PK S r with
  |some (cs',f')=>(f|| !f')&&EU base es π H cs cs'
  |none=>false
 |⟨.mp k s e,f,[]⟩=>match Pz S r with
  |some (k',s',e',f')=>decide (k=k')&&(decide (s=s')&&(decide (e.subst base es=e')&&(f|| !f')))
  |none=>false
 |⟨.sit s p,f,[]⟩=>match Ph S r with
  |some (s',p',f')=>decide (s.subst base es=s')&&(decide (p.subst base es=p')&&(f|| !f'))
  |none=>false
 |_=>false
def KF(base:Nat)(es:List E)(π:Ren)(H S:SS):Nat->List aL->Bool
 |_,[]=>true
 |r,b::l=>zQ base es π H S r b&&KF base es π H S (r+1) l
def OU:Ren->Bool
 | []=>true
 |(_,x)::l=>(match x with|none=>true|some r=>l.all fun y=>y.2 !=some r)&&OU l
def Dh(base:Nat)(es:List E)(π:Ren)(H S:SS):Bool:=
 Ht base es π H H.tmps S.tmps&&(KF base es π H S 0 H.jd&&OU π)
structure Hint where
 key:Nat
 slots:List Nat
 own:List (Nat×Nat):=[]
 cells:List (Nat×Nat×Nat):=[]
 Jv:List Nat:=[]
 Wm:List (Nat×Nat):=[]
def writes:Code->List Nat
 | .region _ ops _=>ops.toList.filterMap (·.dst)
 | .seq a b=>writes a++writes b
 | .cond _ a b=>writes a++writes b
 | .block _ c=>writes c
 | .loop c=>writes c
 | .scope c=>writes c
 |_=> []
def za:Code->Nat
 | .region id _ _=>id
 | .seq a _=>za a
 | .block _ c=>za c
 | .loop c=>za c
 |_=>0
def K5:SX->Option Nat
 | .full r _| .view r _ _| .ref r _ _ _ _| .xG r| .AB r=>some r
 |_=>none
structure En where
 nv:Nat
 es:List E
 π:Ren
 jd:List aL
def akl(S:SS)(x:SX)(id:Nat)(st:En):SX×En:=
 match x with
 | .jo (.sl s) .bg=>(.full id (.len (.vq st.nv)),{st with nv:=st.nv+1,es:=st.es++ [.nil],π:=st.π++ [(id,none)],jd:=st.jd.set id ⟨.row s (.vq st.nv),false,[]⟩})
 | .full r _=>match rowAt S r with
  |some (s,e,f)=>(.full id (.len (.vq st.nv)),{st with nv:=st.nv+1,es:=st.es++ [e],π:=st.π++ [(id,some r)],jd:=(st.jd.set r ⟨.dead,false,[]⟩).set id ⟨.row s (.vq st.nv),f,[]⟩})
  |none=>(.none,st)
 |_=>(.none,st)
def ai9(S:SS)(h:Hint)(tw:List Nat):Nat->List TS->En->List TS×En
 |_,[],st=>([],st)
 |t,ts::l,st=>
  let (x,st):=match h.own.find? (·.1==t)with
   |some (_,id)=>akl S ts.sx id st
   |none=>
    if h.slots.contains t then match ts.sx with
     | .jo s e=>(SX.jo s (.vq st.nv),{st with nv:=st.nv+1,es:=st.es++ [e]})
     |_=>(.none,st)
    else if tw.contains t then(.none,st)
    else if ts.dO=[]then(match ts.sx with| .ptr .. | .res _| .DL .. | .FN _| .Cr .. | .okF| .Ac .. =>(.none,st)|x=>match K5 x with|some r=>if h.own.any (·.2==r)||h.cells.any (·.2.2==r)then(.none,st)else(x,st)|none=>(x,st))else(.none,st)
  let (l,st):=ai9 S h tw (t+1) l st
  (⟨[],x⟩::l,st)
def afB(S:SS)(h:Hint)(r:Nat):Nat->List SX->En->List SX×En
 |_,[],st=>([],st)
 |j,x::l,st=>
  let (y,st):=match h.cells.find? (fun c=>c.1==r&&c.2.1==j)with
   |some (_,_,id)=>akl S x id st
   |none=>if h.Wm.any (fun c=>c.1==r&&c.2==j)then match x with
     | .jo s e=>(SX.jo s (.vq st.nv),{st with nv:=st.nv+1,es:=st.es++ [e]})
     |x=>(x,st)
    else(x,st)
  let (l,st):=afB S h r (j+1) l st
  (y::l,st)
def aja(S:SS)(h:Hint)(tw:List Nat):Nat->List aL->En->En
 |_,[],st=>st
 |r,b::l,st=>
  let st:=if(h.own.any (·.2==r)||h.cells.any (·.2.2==r))then st
   else if tw.contains r then {st with jd:=st.jd.set r ⟨.none,false,[]⟩}
   else match b with
    |⟨.row s e,f,[]⟩=>
     if(st.jd[r]?).map (·.lb)=some .dead then st
     else if h.Jv.contains r then {st with nv:=st.nv+1,es:=st.es++ [e],π:=st.π++ [(r,some r)],jd:=st.jd.set r ⟨.row s (.vq st.nv),f,[]⟩}
     else {st with π:=st.π++ [(r,some r)]}
    |⟨.box cs,f,[]⟩=>
     let (cs,st):=afB S h r 0 cs st
     {st with jd:=st.jd.set r ⟨.box cs,f,[]⟩}
    |⟨.mp k s e,f,[]⟩=>if h.Jv.contains r then {st with nv:=st.nv+1,es:=st.es++ [e],jd:=st.jd.set r ⟨.mp k s (.vq st.nv),f,[]⟩}else st
    |⟨.sit s p,f,[]⟩=>if h.Jv.contains r then {st with nv:=st.nv+1,es:=st.es++ [p],jd:=st.jd.set r ⟨.sit s (.vq st.nv),f,[]⟩}else st
    |⟨.none,_,_⟩|⟨.dead,_,_⟩=>st
    |_=> {st with jd:=st.jd.set r ⟨.dead,false,[]⟩}
  aja S h tw (r+1) l st
def aBg(H:List aL)(t:TS):TS:=
 match K5 t.sx with
 |some r=>match H[r]? with
  |some ⟨.row ..,_,_⟩=>(match t.sx with| .ref .. =>⟨[],.none⟩|_=>t)
  |some ⟨.box ..,_,_⟩|some ⟨.mp ..,_,_⟩|some ⟨.sit ..,_,_⟩=>t
  |_=>⟨[],.none⟩
 |none=>t
def OX(h:Hint)(tw:List Nat)(S:SS):SS×List E×Ren:=
 let (ts,st):=ai9 S h tw 0 S.tmps {nv:=S.nv,es:=[],π:=[],jd:=S.jd}
 let st:=aja S h tw 0 S.jd st
 ({tmps:=ts.map (aBg st.jd),jd:=st.jd,nv:=st.nv},st.es,st.π)
def wM:Code->List Oper
 | .region _ ops _=>ops.toList
 | .seq a b=>wM a++wM b
 | .cond _ a b=>wM a++wM b
 | .block _ c=>wM c
 | .loop c=>wM c
 | .scope c=>wM c
 |_=> []
def conds:Code->List Nat
 | .seq a b=>conds a++conds b
 | .cond c a b=>(match c with| .tmp t=> [t]|_=> [])++conds a++conds b
 | .block _ c=>conds c
 | .loop c=>conds c
 |_=> []
def tmpsOf(o:Op):List Nat:=o.operands.toList.filterMap fun| .tmp t=>some t|_=>none
def exposed:List Oper->List Nat->List Nat
 | [],_=> []
 |o::l,w=>(tmpsOf o.op).filter (fun t=> !w.contains t)++exposed l (match o.dst with|some d=>d::w|none=>w)
def BG(ops:List Oper)(t:Nat):Option Op:=(ops.find? fun o=>o.dst==some t).map (·.op)
def isApp(o:Op):Bool:=match o with| .call {callee:=.builtin .append,.. }=>true|_=>false
def VT(S:SS)(t:Nat):Option (Nat×Sh):=match S.tmps[t]? with|some ⟨_,.ref r _ _ s _⟩=>some (r,s)|_=>none
def KH(S:SS)(t:Nat):Option Nat:=match S.tmps[t]? with|some ⟨_,.full r _⟩|some ⟨_,.view r _ _⟩=>some r|_=>none
def xU(ops:List Oper)(t:Nat):Nat:=match BG ops t with|some (.move (.tmp v))=>v|_=>t
def aAd(S:SS)(ops:List Oper)(q:Nat):Option Nat:=match BG ops q with
 |some (.load _ (.tmp a))=>match BG ops a with
  |some (.fieldAddr _ (.tmp b) j)=>match VT S b with
   |some (r,s)=>match s.eG j with
    |some (_,off)=>match S.jd[r]? with
     |some ⟨.box cs,_,_⟩=>(cs[off]?).bind K5
     |_=>none
    |none=>none
   |none=>none
  |_=>none
 |_=>none
def azH(off n:Nat):List Nat:=(List.range n).map (off+·)
def aBs(cfg:fF)(o:Op):Bool:=isApp o||(match o with| .call {callee:=.value (.func f),.. }=>cfg.owns f|_=>false)
def Oy:List (Nat×Option Nat)->List Nat->List (Nat×Nat)
 | [],_=> []
 |(t,some r)::l,f=>(t,r)::Oy l f
 |(t,none)::l,r::f=>(t,r)::Oy l f
 |(_,none)::l,[]=>Oy l []
def aAA(S:SS)(n t:Nat):Option Nat:=match KH S t with|some r=>if n<=r then some r else none|none=>none
def aAs(S:SS)(r:Nat):Bool:=match S.jd[r]? with|some ⟨.row ..,_,_⟩|some ⟨.box _,_,_⟩|some ⟨.mp ..,_,_⟩|some ⟨.sit ..,_,_⟩=>true|_=>false
def aiW(S:SS)(t:Nat):Option Nat:=match S.tmps[t]? with|some ⟨_,.xG r⟩|some ⟨_,.AB r⟩=>some r|_=>none
def ahb(cfg:fF)(c:Code)(S:SS):Hint:=
 let ops:=wM c
 let tw:=writes c
 let ex:=exposed ops []
 let as:=ops.filterMap fun o=>match o.op with| .assign _=>o.dst|_=>none
 let app:=ops.filterMap fun o=>if aBs cfg o.op then o.dst else none
 let app:=app++ops.filterMap fun o=>match o.op,o.dst with| .extract (.tmp t) 0,some d=>if app.contains t then some d else none|_,_=>none
 let n:=S.tmps.length
 let own:=(ops.filterMap fun o=>match o.op,o.dst with
  | .assign (.tmp x),some t=>if app.contains x then some t else none
  |_,_=>none).eraseDups
 let own:=own.map fun t=>(t,aAA S n t)
 let own:=Oy own (((List.range 8).map (n+·)).filter fun r=> !aAs S r&& !(own.any fun x=>x.2==some r))
 let stores:=ops.filterMap fun o=>match o.op with| .store _ (.tmp a) (.tmp x)=>some (a,some x)| .store _ (.tmp a) _=>some (a,none)|_=>none
 let touched:=stores.filterMap fun(a,x)=>match BG ops a with
  |some (.fieldAddr _ (.tmp b) j)=>match VT S b with
   |some (r,s)=>match s.eG j with|some (s',off)=>some (r,off,s'.size,x)|none=>none
   |none=>none
  |none=>match VT S a with|some (r,s)=>some (r,0,s.size,x)|none=>none
  |_=>none
 let cells:=((touched.filterMap fun(r,off,_,x)=>match x with|some x=>if app.contains x then some (r,off)else none|none=>none).eraseDups).zipIdx.map fun((r,off),i)=>(r,off,n+8+i)
 let Wm:=(touched.flatMap fun(r,off,k,_)=>(azH off k).map fun j=>(r,j)).eraseDups
 let Jv:=stores.filterMap fun(a,_)=>match BG ops a with
  |some (.indexAddr _ (.tmp q) _)=>(KH S (xU ops q)).orElse fun _=>aAd S ops (xU ops q)
  |some (.fieldAddr _ (.tmp b) _)=>match BG ops b with|some (.indexAddr _ (.tmp q) _)=>KH S (xU ops q)|_=>none
  |_=>none
 let copies:=ops.filterMap fun o=>match o.op with
  | .call {callee:=.builtin .copy,args,.. }=>match args.toList with
   |(.tmp a)::_=>match BG ops a with|some (.slice _ (.tmp q) _ _ _)=>KH S (xU ops q)|_=>KH S (xU ops a)
   |_=>none
  |_=>none
 let objs:=ops.filterMap fun o=>match o.op with
  | .mapUpdate _ (.tmp m) _ _=>aiW S (xU ops m)
  | .next (.tmp i) _=>aiW S (xU ops i)
  |_=>none
 {key:=0,slots:=(ex++as++conds c).filter (fun t=>tw.contains t),own,cells,Jv:=(Jv++copies++objs).eraseDups,Wm}
def ajc(H:SX)(S:SX):List (E×E)×Ren:=
 match H,S with
 | .jo _ e,.jo _ e'=>([(e,e')],[])
 | .full r n,.full r' n'=>([(n,n')],[(r,some r')])
 | .full r _,.jo _ .bg=>([],[(r,none)])
 |_,_=>([],[])
def O5{α:Type}(f:α->α->List (E×E)×Ren):List α->List α->List (E×E)×Ren
 |x::l,y::m=>let (a,b):=f x y;let (c,d):=O5 f l m;(a++c,b++d)
 |_,_=>([],[])
def aAC(H S:aL):List (E×E)×Ren:=
 match H.lb,S.lb with
 | .box cs,.box cs'=>O5 ajc cs cs'
 | .mp _ _ e,.mp _ _ e'=>([(e,e')],[])
 | .sit _ p,.sit _ p'=>([(p,p')],[])
 |_,_=>([],[])
def Vi:Ren->Ren->Ren
 |π,[]=>π
 |π,x::l=>if π.any (fun y=>y.1==x.1)then Vi π l else Vi (π++ [x]) l
def rowsOf(own:Ren):Nat->List aL->Ren
 |_,[]=> []
 |r,b::l=>match b.lb with
  | .row .. =>if own.any (fun y=>y.1==r)then rowsOf own (r+1) l else(r,some r)::rowsOf own (r+1) l
  |_=>rowsOf own (r+1) l
def guess(base k:Nat)(H S:SS):List E×Ren:=
 let (a,p):=O5 (fun x y:TS=>ajc x.sx y.sx) H.tmps S.tmps
 let (b,q):=O5 aAC H.jd S.jd
 let π:=Vi [] (p++q)
 let π:=π++rowsOf π 0 H.jd
 let rows:=π.filterMap fun(r,o)=>match rowAt H r with
  |some (_,e,_)=>match o with
   |some r'=>(rowAt S r').map fun(_,e',_)=>(e,e')
   |none=>some (e,.nil)
  |none=>none
 let eqs:=a++b++rows
 ((List.range k).map fun i=>((eqs.find? fun x=>decide (x.1=.vq (base+i))).map (·.2)).getD .nil,π)
def looks(ops:List Oper)(o:Oper):List Nat:=
 o.op.operands.toList.filterMap (fun| .tmp t=>some t|_=>none)++(match o.guard with|some (j,_)=>((ops[j]?).bind (·.dst)).toList|none=> [])
def indep(cfg:fF)(ops:List Oper)(a x:Oper):Bool:=
 (match a.dst with|some d=> !(looks ops x).contains d&&x.dst !=some d|none=>true)&&
 ((match x.dst with|some d=> !(looks ops a).contains d|none=>true)&&
 match cls cfg a,cls cfg x with
 | .P,_|_,.P=>true
 | .R,.R| .R,.call| .call,.R| .R,.A| .call,.A| .R,.L| .call,.L| .A,.A| .L,.A=>true
 |_,_=>false)
def uW:List Oper->List Nat->List Nat
 | [],acc=>acc
 |o::l,acc=>uW l (acc++ [o.after.toList.foldl (fun m e=>if Region.binds .any e then m|||2^e.on|||acc.getD e.on 0 else m) 0])
def ay6(cfg:fF)(ops:List Oper)(an:List Nat):Bool:=
 ops.zipIdx.all fun(x,j)=>ops.zipIdx.all fun(a,i)=> !(i<j)||(an.getD j 0).testBit i||indep cfg ops a x
def Vg(ops:List Oper):Bool:=ops.zipIdx.all fun(o,i)=>o.after.toList.all fun e=> !Region.binds .any e||e.on<i
def CX(P:Program)(cfg:fF)(ops:List Oper):Bool:=P.follows .mixedOrders&&(Vg ops&&ay6 cfg ops (uW ops []))
def JX(bs:List aL)(r:Nat)(es:Sh)(e i:E)(fo:Nat)(s:Sh)(eG:Option Nat)(x:SX):Option (List fV):=
 match lg (bT bs) [] x with
 |some (s',ex,f)=>
  if s=s'&& !f.contains r then
   match eG with
   |none=>if s=es then some (f.map .bM++ [.put r ⟨.row es (.set e i ex),false,[]⟩])else none
   |some j=>if es.eG j=some (s,fo)then some (f.map .bM++ [.put r ⟨.row es (.set e i (.rH j (.idx e i) ex)),false,[]⟩])else none
  else none
 |none=>none
def JZ(bs:List aL)(r:Nat)(cs:List SX)(fo:Nat)(s:Sh)(x:SX):Option (List fV):=
 match x with
 | .jo s' ex=>if s=s'&&fo+s.size<=cs.length then some [.put r ⟨.box (cs.take fo++(flat s ex++cs.drop (fo+s.size))),false,[]⟩]else none
 | .full r' n=>match rowOf (bT bs) [] r' with
  |some (es,_)=>if s=.sl es&&fo<cs.length then some [.put r ⟨.box (cs.set fo (.full r' n)),false,[]⟩]else none
  |none=>none
 |_=>none
def zJ(P:Program)(bs:List aL)(t:TypeId)(a x:Option SX):Option (List fV):=
 match a,x with
 |some (.ref r i fo s eG),some x=>if kL P t s then match bs[r]? with
   |some ⟨.row es e,false,[]⟩=>JX bs r es e i fo s eG x
   |some ⟨.box cs,false,[]⟩=>JZ bs r cs fo s x
   |_=>none
  else none
 |_,_=>none
def Hl(P:Program)(keep:Bool)(bs:List aL)(ts:Array TypeId)(d:Nat)(a b:Option SX):Option (SX×List fV×List Ob):=
 match rY P (ts.getD 0 0),a,b with
 |some et,some sa,some sb=>
  match uP P bs et (ts.getD 1 0) sb with
  |none=>none
  |some (s,m,f)=>
   if ts.size=2&&(zeroE P et s).isSome&&kL P et s&&s.size !=0&&P.bytesOf et !=0 then
    match sa with
    | .jo (.sl s') .bg=>if s=s'&&tq bs d then some (.full d (r9 m),[.put d ⟨.row s m,false,[]⟩],[.ak [] (.cmp .leq (.raw .mul (.len m) (.int (P.bytesOf et))) (.int 140737488355328))])else none
    | .full r n=>match ownRow bs r with
     |some (s',e)=>
      if keep then
       if s=s'&& !f.contains r then
        some (.jo (.sl s) (.app e m),[.put r ⟨.row s e,true,[]⟩],[.ak [] (.cmp .leq (.raw .mul (.raw .add n (.len m)) (.int (P.bytesOf et))) (.int 140737488355328))])
       else none
      else if s=s'&& !f.contains r&&tq bs d then
       some (.full d (.raw .add n (r9 m)),[.put r ⟨.dead,false,[]⟩,.put d ⟨.row s (.app e m),false,[]⟩],[.ak [] (.cmp .leq (.raw .mul (.raw .add n (.len m)) (.int (P.bytesOf et))) (.int 140737488355328))])
      else none
     |none=>none
    |_=>none
   else none
 |_,_,_=>none
def FI(P:Program)(bs:List aL)(ts:Array TypeId)(a b:Option SX):Option (SX×List fV):=
 match rY P (ts.getD 0 0),a,b with
 |some et,some sa,some sb=>
  match zY P bs (ts.getD 1 0) sb,Qi sa with
  |some (s,m,_),some (r,off,n)=>match ownRow bs r with
   |some (s',e)=>if s=s'&&kL P et s&&ts.size=2 then
     some (.jo (.int .i64) (.qR (r9 m) n),[.put r ⟨.row s (.jr e off (.sub m (.int 0) n)),false,[]⟩])
    else none
   |none=>none
  |_,_=>none
 |_,_,_=>none
def wW(P:Program)(cfg:fF)(o:Oper)(ev:Ev)(bs:List aL):Option (SX×List fV×List Ob):=
 match o.op with
 | .store t a x=>match zJ P bs t (ev [] a 0) (ev [] x t)with|some cs=>some (.none,cs,[])|none=>none
 | .call {callee:=.builtin .append,args,argTypes}=>match args.toList,o.dst with
  | [a,b],some d=>Hl P (cfg.keep o) bs argTypes d (ev [] a (argTypes.getD 0 0)) (ev [] b (argTypes.getD 1 0))
  |_,_=>none
 | .call {callee:=.builtin .copy,args,argTypes}=>match args.toList with
  | [a,b]=>match FI P bs argTypes (ev [] a (argTypes.getD 0 0)) (ev [] b (argTypes.getD 1 0))with|some (x,cs)=>some (x,cs,[])|none=>none
  |_=>none
 | .convert src dst x=>if src=dst then match Dz P bs src (ev [] x src)with|some (s,e,r)=>some (.jo (.sl s) e,[.put r ⟨.dead,false,[]⟩],[])|none=>none else none
 | .mapUpdate t m k x=>match Dy P bs t (ev [] m t) (tu (ev [] k 0)) (ev [] x 0)with|some (r,b)=>some (.none,[.put r b],[])|none=>none
 | .next it true=>match Dx bs (ev [] it 0)with|some (x,r,b)=>some (x,[.put r b],[])|none=>none
 |_=>none
def yA(P:Program)(cfg:fF)(o:Oper)(ev:Ev)(bs:List aL)(nv:Nat):Option (SX×List fV×List Ob×Nat):=
 match o.op,o.dst with
 | .call {callee:=.value (.func f),args,argTypes},some d=>
  if cfg.grow.contains f then none
  else if cfg.fresh.contains f then
   match Fw P o.type with
   |some (.sl s::aK)=>
    match pK ev (bT bs) [] args.toList argTypes.toList with
    |some (l,fz)=>
     if s.size !=0&&(tq bs d&&f<1000000)then
      some (Bu d nv aK,(oQ s aK fz).map .bM++ [.put d ⟨.row s (.vq nv),false,[]⟩],[.call [] (2000000+f) l (.sl s::aK)],1+aK.length)
     else none
    |none=>none
   |_=>none
  else none
 |_,_=>none
def coreC(P:Program)(cfg:fF)(o:Oper)(pc:bq)(ev:Ev)(bs:List aL)(nv:Nat):Option (SX×List fV×Nat×List Ob):=
 if cls cfg o=.W then
  if pc=[]then match wW P cfg o ev bs with
   |some (x,cs,ji)=>if iA ji=0 then some (x,cs,0,ji)else none
   |none=>none
  else none
 else if cls cfg o=.G then
  if pc=[]then match yA P cfg o ev bs nv with
   |some (x,cs,ji,n)=>if iA ji=n then some (x,cs,n,ji)else none
   |none=>none
  else none
 else match iI P cfg o pc ev (bT bs) nv with
  |some out=>if iA out.ji=out.nv then some (out.x,out.jq,out.nv,out.ji)else none
  |none=>none
structure FP where
 F:List Nat
 W:List Nat
 Z:List Nat
def ako:aL:=⟨.none,false,[]⟩
def lK(F:List Nat)(bs:List aL):List aL:=bs.mapIdx fun i b=>if F.contains i then b else ako
def DF(φ:FP):fV->Bool
 | .put r _=>φ.W.contains r
 | .bM r=>φ.Z.contains r
def Lj(φ:FP)(o:Oper):Bool:=match o.dst with|some d=>φ.F.contains d|none=>true
def P8(o:Oper):Bool:=match o.op with| .indexAddr .. =>true|_=>false
def P7(o:Oper):Bool:=match o.op with| .store .. =>true|_=>false
def tK(P:Program)(cfg:fF)(φ:Oper->FP)(ops:List Oper)(o:Oper)(S:SS):Option (SS×List Ob):=
 match wF S ops o with
 |none=>none
 |some pc=>match coreC P cfg o pc (S.ev P) (lK (φ o).F S.jd) S.nv with
  |some (x,cs,n,ob)=>
   if cs.all (DF (φ o))&&Lj (φ o) o then some ({tmps:=eT S.tmps o.dst ⟨pc,x⟩,jd:=bP cs S.jd,nv:=S.nv+n},ob)else none
  |none=>none
def wU(step:Oper->SS->Option (SS×List Ob)):List Oper->SS->Option (SS×List Ob)
 | [],S=>some (S,[])
 |o::r,S=>match step o S with
  |none=>none
  |some (S1,ji)=>match wU step r S1 with
   |none=>none
   |some (S2,V7)=>some (S2,ji++V7)
def apart(a b:List Nat):Bool:=a.all fun r=> !b.contains r
def Jk(cfg:fF)(o:Oper):Bool:=cls cfg o==.W||cls cfg o==.G
def Cy(cfg:fF)(o:Oper):Bool:=cls cfg o==.call||cls cfg o==.G
def KP(cfg:fF)(φ:Oper->FP)(ops:List Oper)(a x:Oper):Bool:=
 (match a.dst with|some d=> !(looks ops x).contains d&&x.dst !=some d|none=>true)&&
 ((match x.dst with|some d=> !(looks ops a).contains d|none=>true)&&
 ((apart (φ a).W (φ x).F||P7 a&&P8 x)&&((apart (φ x).W (φ a).F||P7 x&&P8 a)&&(apart (φ a).W (φ x).W&&(apart (φ a).W (φ x).Z&&(apart (φ x).W (φ a).Z&&
 ((!Jk cfg x||apart (φ a).Z (φ x).F)&&((!Jk cfg a||apart (φ x).Z (φ a).F)&&(!Cy cfg a|| !Cy cfg x)))))))))
def ags(cfg:fF)(φ:Oper->FP)(ops:List Oper)(an:List Nat):Bool:=
 ops.zipIdx.all fun(x,j)=>ops.zipIdx.all fun(a,i)=> !(i<j)||(an.getD j 0).testBit i||KP cfg φ ops a x
def keyOf(o:Oper):Nat:=match o.dst with
 |some d=>2*d
 |none=>match o.op with| .store _ (.tmp a) _=>2*a+1| .mapUpdate _ (.tmp a) (.tmp b) _=>2*(1000*a+b)+1|_=>1
def aBh(bs:List aL)(x:SX):List Nat:=match K5 x with
 |some r=>r::(match bs[r]? with|some ⟨.box cs,_,_⟩=>cs.filterMap K5|_=> [])
 |none=>match x with| .DL r _ _=> [r]|_=> []
def aCu(cfg:fF)(S:SS)(o:Oper)(cs:List fV):FP:=
 {F:=(if cls cfg o=.P then []else(tmpsOf o.op).flatMap (fun t=>match S.tmps[t]? with|some ts=>aBh S.jd ts.sx|none=> []))++o.dst.toList
  W:=cs.filterMap fun| .put r _=>some r|_=>none
  Z:=cs.filterMap fun| .bM r=>some r|_=>none}
def akr(P:Program)(cfg:fF)(ops:List Oper):List Oper->SS->List (Nat×FP)
 | [],_=> []
 |o::l,S=>match wF S ops o with
  |none=> []
  |some pc=>match coreC P cfg o pc (S.ev P) S.jd S.nv with
   |some (x,cs,n,_)=>(keyOf o,aCu cfg S o cs)::akr P cfg ops l {tmps:=eT S.tmps o.dst ⟨pc,x⟩,jd:=bP cs S.jd,nv:=S.nv+n}
   |none=> []
def akT(T:List (Nat×FP))(o:Oper):FP:=((T.find? fun x=>x.1==keyOf o).map (·.2)).getD ⟨[],[],[]⟩
def Sy(P:Program)(cfg:fF)(ops:List Oper)(S:SS):Bool:=
 match akr P cfg ops ops S with
 |T=>P.follows .mixedOrders&&(Vg ops&&(ags cfg (akT T) ops (uW ops [])&&(wU (tK P cfg (akT T) ops) ops S).isSome))
def OY(c:E):SX->SX->SX
 | .jo s e,.jo s' e'=>if s=s' then(if e=e' then .jo s e else .jo s (.ite c e e'))else .none
 |x,y=>if x=y then x else .none
def Df(c:E):List TS->List TS->List TS
 |x::l,y::m=>(if x.dO=[]/\y.dO=[]then⟨[],OY c x.sx y.sx⟩else⟨[],.none⟩)::Df c l m
 |_,_=> []
def EM(c:E):List SX->List SX->Option (List SX)
 | [],[]=>some []
 |x::l,y::m=>match EM c l m with
  |some r=>if x=y then some (x::r)else match x,y with
   | .jo s e,.jo s' e'=>if s=s' then some (.jo s (.ite c e e')::r)else none
   |_,_=>none
  |none=>none
 |_,_=>none
def U9(c:E)(x y:aL):Option aL:=
 if x=y then some x else match x,y with
 |⟨.box cs,f,[]⟩,⟨.box cs',f',[]⟩=>if f=f' then(match EM c cs cs' with|some r=>some ⟨.box r,f,[]⟩|none=>none)else none
 |_,_=>none
def EN(c:E):List aL->List aL->Option (List aL)
 | [],[]=>some []
 |x::l,y::m=>match U9 c x y,EN c l m with
  |some b,some r=>some (b::r)
  |_,_=>none
 |_,_=>none
def U7(c:E)(S S':SS):Option SS:=
 if S.tmps.length=S'.tmps.length/\S.nv=S'.nv then match EN c S.jd S'.jd with
  |some bs=>some {tmps:=Df c S.tmps S'.tmps,jd:=bs,nv:=S.nv}
  |none=>none
 else none
def Ob.under(p:bq):Ob->Ob
 | .ak q e=> .ak (p++q) e
 | .call q f a r=> .call (p++q) f a r
def prun(P:Program)(cfg:fF):Code->SS->Option (SS×List Ob)
 | .skip,S=>some (S,[])
 | .region _ ops draw,S=>
  if draw&& !CX P cfg ops.toList then none else
  match oM P cfg ops.toList ops.toList S with
  |some (S',ji)=>if S'.nv=S.nv then some (S',ji)else none
  |none=>none
 | .seq a b,S=>match prun P cfg a S with
  |some (S1,o1)=>match prun P cfg b S1 with
   |some (S2,o2)=>some (S2,o1++o2)
   |none=>none
  |none=>none
 | .cond c a b,S=>match S.ev P [] c 0 with
  |some (.jo .bool e)=>match prun P cfg a S,prun P cfg b S with
   |some (S1,o1),some (S2,o2)=>match U7 e S1 S2 with
    |some M=>some (M,o1.map (Ob.under [(e,true)])++o2.map (Ob.under [(e,false)]))
    |none=>none
   |_,_=>none
  |_=>none
 |_,_=>none
inductive XE where
 |normal
 |exit (id:Nat)
 |ret
def sx(P:Program)(cfg:fF)(hints:List Hint):Code->SS->Nat->(XE->SS->Nat->VC)->VC
 | .skip,S,l,K=>K .normal S l
 | .region id ops draw,S,l,K=>
  if draw&& !(CX P cfg ops.toList||Sy P cfg ops.toList S)then .fail (1000000+id)else
  match oM P cfg ops.toList ops.toList S with
  |some (S',ji)=>if S.bd S.nv&&Ij S.nv ji then Lf ji (K .normal S' l)else .fail (2000000+id)
  |none=> .fail (1000*id+ahm P cfg ops.toList 0 ops.toList S)
 | .seq a b,S,l,K=>sx P cfg hints a S l fun e S' l=>match e with| .normal=>sx P cfg hints b S' l K|e=>K e S' l
 | .cond c a b,S,l,K=>match S.ev P [] c 0 with
  |some (.jo .bool e)=>match e with
   | .bool true=>sx P cfg hints a S l K
   | .bool false=>sx P cfg hints b S l K
   |e=>match prun P cfg (.cond c a b) S with
    |some (M,ji)=>if S.bd S.nv&&Ij S.nv ji then Lf ji (K .normal M l)else .fail 3000001
    |none=>
     if cfg.cuts.contains (za a)then
      match OX (ahb cfg (.cond c a b) S) (writes (.cond c a b)) S with
      |(H,es,_)=>
       if H.nv=S.nv+es.length&&H.bd H.nv then
        .cut es.length (.cond e (sx P cfg hints a S (l+1) fun x S' l'=>match x with
         | .normal=>match guess S.nv es.length H S' with
          |(es',π')=>if Dh S.nv es' π' H S'&&es'.length=es.length then .jm l es' else .fail (4000000+za a)
         |x=>K x S' l') (sx P cfg hints b S (l+1) fun x S' l'=>match x with
         | .normal=>match guess S.nv es.length H S' with
          |(es',π')=>if Dh S.nv es' π' H S'&&es'.length=es.length then .jm l es' else .fail (4500000+za a)
         |x=>K x S' l')) (K .normal H l)
       else .fail (4900000+za a)
     else .cond e (sx P cfg hints a S l K) (sx P cfg hints b S l K)
  |some (.FN e)=> .Cz e (sx P cfg hints a S l K) (sx P cfg hints b S l K)
  |_=> .fail 3000000
 | .block id c,S,l,K=>sx P cfg hints c S l fun e S' l=>match e with
  | .exit id'=>if id'=id then K .normal S' l else K (.exit id') S' l
  |e=>K e S' l
 | .exit id,S,l,K=>K (.exit id) S l
 | .ret,S,l,K=>K .ret S l
 | .loop c,S,l,K=>
  match OX (match hints.find? (fun h=>h.key==za c)with|some h=>h|none=>ahb cfg c S) (writes c) S with
  |(H,es,π)=>
   if Dh S.nv es π H S&&(H.nv=S.nv+es.length&&(H.bd H.nv&&S.bd S.nv))then
    .loop es (sx P cfg hints c H (l+1) fun e S' l'=>match e with
     | .normal=>
      match guess S.nv es.length H S' with
      |(es',π')=>if Dh S.nv es' π' H S'&&es'.length=es.length then .jm l es' else .fail (5000000+za c)
     |e=>K e S' l')
   else .fail (6000000+za c)
 |_,_,_,_=> .fail 7000000
def ayU(c:Code):List Nat:=
 let ops:=wM c
 let lits:=ops.filterMap fun o=>match o.op with| .buildSlice .. =>o.dst|_=>none
 let akV:=ops.flatMap fun o=>match o.op with
  | .call {callee:=.builtin .append,args,.. }=>match args.toList with|(.tmp a)::_=> [a,xU ops a]|_=> []
  | .call {callee:=.builtin .copy,args,.. }=>match args.toList with|(.tmp a)::_=> [a,xU ops a]|_=> []
  | .store _ (.tmp a) _=>match BG ops a with|some (.indexAddr _ (.tmp q) _)=> [q,xU ops q]|_=> []
  | .convert s t (.tmp a)=>if s=t then [a]else []
  |_=> []
 lits.filter fun t=>akV.contains t||ops.any fun o=>match o.op,o.dst with| .assign (.tmp x),some v=>x==t&&akV.contains v|_,_=>false
def R7(t v:Nat):List Oper->Bool
 | []=>false
 |o::l=>(tmpsOf o.op).any (fun x=>x==t||x==v)||(match o.op,o.dst with| .assign _,some d=>if d==v then false else R7 t v l|_,_=>R7 t v l)
def ai5(ops:List Oper):List Oper->List Nat
 | []=> []
 |o::l=>(match o.op,o.dst with
  | .call {callee:=.builtin .append,args,.. },some d=>match args.toList with
   |(.tmp a)::_=>if R7 a (xU ops a) l then [d]else []
   |_=> []
  |_,_=> [])++ai5 ops l
def azl(c:Code):List Nat:=ai5 (wM c) (wM c)
def marksOf(c:Code):List Nat:=
 let ops:=wM c
 ops.filterMap fun o=>match o.op with
  | .convert s t (.tmp a)=>if s=t then(match BG ops a with|some (.buildSlice ..)=>o.dst|_=>none)else none
  |_=>none
def DK(P:Program)(S:SS):List ResultVar->Option (List (Sh×E))
 | []=>some []
 | .tmp t::l=>match(S.ev P [] (.tmp t) 0).bind (lg S.rb []),DK P S l with
  |some (s,e,_),some r=>some ((s,e)::r)
  |_,_=>none
 | .cell t ty::l=>match(BF P S.rb [] ty (S.ev P [] (.tmp t) 0)).bind (fun o=>lg S.rb [] o.x),DK P S l with
  |some (s,e,_),some r=>some ((s,e)::r)
  |_,_=>none
def vI(dZ:List Sh)(n:Nat):SS:=
 {tmps:=(jZ 0 dZ).map (fun(s,e)=>⟨[],.jo s e⟩)++List.replicate (n-dZ.length) ⟨[],.none⟩,jd:=List.replicate (n+16) ⟨.none,false,[]⟩,nv:=dZ.length}
def Wo(P:Program)(cfg:fF)(hints:List Hint)(fn:Func)(dZ:List Sh):VC:=
 match fn.body with
 |none=> .fail 8000000
 |some c=>sx P cfg hints c (vI dZ fn.ntmps) 0 fun e S _=>match e with
  | .exit _=> .fail 8000001
  |_=>match DK P S fn.results.toList with
   |some rs=> .ret rs
   |none=> .fail 8000002
def wO:Sh->E->Bool
 | .sl _,.bg=>true
 | .sl _,_=>false
 | .jc a b,.cons x y=>wO a x&&wO b y
 | .jc a b,_=>a.iQ&&b.iQ
 | .dB _ _,_| .mp _ _,_=>false
 |_,_=>true
def VP(P:Program)(cfg:fF)(hints:List Hint)(fn:Func)(dZ:List Sh):VC:=
 match fn.body with
 |none=> .fail 8000000
 |some c=>sx P cfg hints c (vI dZ fn.ntmps) 0 fun e S _=>match e with
  | .exit _=> .fail 8000001
  |_=>match fn.results.toList with
   | [.tmp t]=>match S.ev P [] (.tmp t) 0 with
    |some (.jo s e)=>if wO s e then .ret [(s,e)]else .fail 8000004
    |_=> .fail 8000002
   | [.cell t ty]=>match BF P S.rb [] ty (S.ev P [] (.tmp t) 0)with
    |some ⟨.jo s e,_,_,_⟩=>if wO s e then .ret [(s,e)]else .fail 8000004
    |_=> .fail 8000002
   |_=> .fail 8000002
def FM(P:Program)(S:SS):List ResultVar->Option (List (Sh×E)×List Nat)
 | []=>some ([],[])
 | .tmp t::l=>match(S.ev P [] (.tmp t) 0).bind (lg S.rb []),FM P S l with
  |some (s,e,f),some (r,g)=>some ((s,e)::r,f++g)
  |_,_=>none
 | .cell .. ::_=>none
def IC(P:Program)(S:SS):List ResultVar->Option (List (Sh×E))
 | .tmp t::l=>match S.ev P [] (.tmp t) 0 with
  |some (.full r _)=>match ownRow S.jd r,FM P S l with
   |some (s,e),some (rs,fz)=>if !fz.contains r then some ((.sl s,e)::rs)else none
   |_,_=>none
  |some (.jo (.sl s) .bg)=>match FM P S l with
   |some (rs,_)=>some ((.sl s,.bg)::rs)
   |none=>none
  |_=>none
 |_=>none
def xX(s:Sh)(dZ:List Sh)(n:Nat):SS:=
 {tmps:=(⟨[],.full (n+16) (.len (.vq 0))⟩::(jZ 1 dZ).map (fun(s,e)=>⟨[],.jo s e⟩))++List.replicate (n-(dZ.length+1)) ⟨[],.none⟩,
  jd:=List.replicate (n+16) ⟨.none,false,[]⟩++ [⟨.row s (.vq 0),false,[]⟩],nv:=dZ.length+1}
def VQ(P:Program)(cfg:fF)(hints:List Hint)(fn:Func)(s:Sh)(dZ:List Sh):VC:=
 if s.size !=0 then match fn.body with
 |none=> .fail 8000000
 |some c=>sx P cfg hints c (xX s dZ fn.ntmps) 0 fun e S _=>match e with
  | .exit _=> .fail 8000001
  |_=>match IC P S fn.results.toList with
   |some rs=> .ret rs
   |none=> .fail 8000002
 else .fail 8000003
def VR(P:Program)(cfg:fF)(hints:List Hint)(fn:Func)(dZ:List Sh):VC:=
 match fn.body with
 |none=> .fail 8000000
 |some c=>sx P cfg hints c (vI dZ fn.ntmps) 0 fun e S _=>match e with
  | .exit _=> .fail 8000001
  |_=>match IC P S fn.results.toList with
   |some rs=> .ret rs
   |none=> .fail 8000002
end Go.Vc
namespace Go.Vc
open Go.RowKit
structure Wb where
 w:World
 G:Nat->Prop
def Wb.own(w0:Wb)(b:Nat):Prop:=w0.w.heap.size<=b\/w0.G b
structure tJ (P:Program) (w0:Wb) (w:World):Prop where
 os:w.os=w0.w.os
 tape:w.tape=w0.w.tape
 output:w.output=w0.w.output
 size:w0.w.heap.size<=w.heap.size
 block:∀k,k<w0.w.heap.size->¬w0.G k->w.heap[k]?=w0.w.heap[k]?
 kw:KW P w0.w
 kb:∀g,wC P g->¬w0.G g
def iq(k:aL):Bool:=match k.lb with| .row .. | .box _| .mp .. | .sit .. =>true|_=>false
def NN(N0:Nat->Prop)(B:Nat->Prop)(ρ:List C)(bs:List aL)(hv:Nat->Value)(b:Nat):Prop:=
 (N0 b\/B b)/\∀r k,bs[r]?=some k->iq k=true->k.iK=false->bF ρ k.dO->dI (hv r)≠some b
def Exact:Sh->E->List Value->Prop
 | .sl _,.bg,vs=>vs=[.slice none 0 0]
 | .jc a b,.cons x y,vs=>∃va vb,vs=va++vb/\va.length=a.size/\Exact a x va/\Exact b y vb
 |_,_,_=>True
def eu(bs:List aL)(r:Nat):Option (Sh×E×bq):=match bs[r]? with|some ⟨.row s e,_,p⟩=>some (s,e,p)|_=>none
def gZ(bs:List aL)(r:Nat):Option (List SX×bq):=match bs[r]? with|some ⟨.box cs,_,p⟩=>some (cs,p)|_=>none
def Il(bs:List aL)(r:Nat):Option (IntKind×Sh×E×bq):=match bs[r]? with|some ⟨.mp k s e,_,p⟩=>some (k,s,e,p)|_=>none
def nH(bs:List aL)(ρ:List C)(r:Nat):Prop:=∃k,bs[r]?=some k/\iq k=true/\bF ρ k.dO
def known(bs:List aL)(r:Nat):Prop:=∃k,bs[r]?=some k/\k.lb≠.none
def dA(w : World)(N : Nat -> Prop)(ρ : List C)(bs : List aL)(hv : Nat -> Value) : SX -> Value -> Prop
  | .none, _ => True
  | .jo s e, v => ∃ vs, Rd w N s vs (e.eval ρ) /\ v = s.mk vs /\ Exact s e vs
  | .res l, v => (∃ vs, v =.tuple vs.toArray /\ fI w N (gB ρ l) vs) /\ ∀ x ∈ l, ∀ vs, Exact x.1 x.2 vs
  | .DL r n l, v => known bs r /\ ∃ v1 vr, v =.tuple (v1 :: vr).toArray /\ (∀ s e p, eu bs r = some (s, e, p) -> bF ρ p -> v1 = hv r /\ (n.eval ρ).toInt = ((e.eval ρ).toList.length : Int)) /\
      fI w N (gB ρ l) vr /\ ∀ x ∈ l, ∀ vs, Exact x.1 x.2 vs
  | .full r n, v => known bs r /\ ∀ s e p, eu bs r = some (s, e, p) -> bF ρ p -> v = hv r /\ (n.eval ρ).toInt = ((e.eval ρ).toList.length : Int)
  | .view r off n, v => known bs r /\ ∀ s e p, eu bs r = some (s, e, p) -> bF ρ p -> ∃ o m : Nat, (off.eval ρ).toInt = (o : Int) /\ (n.eval ρ).toInt = (m : Int) /\ o + m <= (e.eval ρ).toList.length /\
      ∃ a cap, v =.slice a m cap /\ m <= cap /\ cap <= maxLen /\ (0 < m -> ∃ g, dI (hv r) = some g /\ a = some ⟨g, o * s.size, none⟩)
  | .ref r i fo s eG, v => known bs r /\ (∀ es e p, eu bs r = some (es, e, p) -> bF ρ p -> ∃ o g : Nat, (i.eval ρ).toInt = (o : Int) /\ o < (e.eval ρ).toList.length /\ dI (hv r) = some g /\ v =.pointer (some ⟨g, o * es.size + fo, none⟩) /\
        (match eG with | none => fo = 0 /\ s = es | some j => es.eG j = some (s, fo))) /\
      (∀ cs p, gZ bs r = some (cs, p) -> bF ρ p -> ∃ g, dI (hv r) = some g /\ v =.pointer (some ⟨g, fo, none⟩))
  | .ptr s e, v => ∃ b off us, v =.pointer (some ⟨b, off, none⟩) /\ N b /\ b < w.heap.size /\ pG w b off us /\ Rd w N s us (e.eval ρ) /\ Exact s e us
  | .fn f, v => v =.func (.func f) #[] #[]
  | .FN e, v => ∃ b : Bool, v =.bool b /\ (b = true -> (e.eval ρ).toList = [])
  | .Ac t s name, v => ∃ us, v =.func (.method name) #[.iface t (s.mk us)] #[]
  | .xG r, v => known bs r /\ v = hv r
  | .AB r, v => known bs r /\ v = hv r
  | .Cr s p, v => ∃ q : Nat, (p.eval ρ).toInt = (q : Int) /\ v = if q < (s.eval ρ).jk.length then .tuple #[.bool true,.int .i64 (q : Int),.int .i32 ((Utf8.decode ⟨(s.eval ρ).jk.toArray⟩ q).1 : Nat)]else .tuple #[.bool false]
  | .okF, v => ∃ z, v =.tuple #[z,.bool false]
def gV(w:World)(N:Nat->Prop)(ρ:List C)(bs:List aL)(hv:Nat->Value):List SX->List Value->Prop
 | [],vs=>vs=[]
 |x::l,vs=>∃v r,vs=v::r/\dA w N ρ bs hv x v/\gV w N ρ bs hv l r
def tT(w:World)(B:Nat->Prop)(N:Nat->Prop)(ρ:List C)(bs:List aL)(hv:Nat->Value)(r:Nat):LB->Prop
 | .row s e=>∃et xs,w.jL B et s.size (hv r) (e.eval ρ).toList.length xs/\cZ w N s xs (e.eval ρ).toList/\0<s.size
 | .box cs=>∃g bt arr,hv r=.pointer (some ⟨g,0,none⟩)/\B g/\w.heap[g]?=some (.cells arr bt (0,0))/\gV w N ρ bs hv cs arr.toList
 | .mp k s e=>∃g l,hv r=.map (some g)/\B g/\rD w g k l/\qQ (fun v d=>Rd w N s [v] d) l (e.eval ρ).toList
 | .sit s p=>∃(g q:Nat),hv r=.pointer (some ⟨g,0,none⟩)/\B g/\(p.eval ρ).toInt=(q:Int)/\w.heap[g]?=some (.stringIter ⟨(s.eval ρ).jk.toArray⟩ q)
 |_=>True
structure aZ (P:Program) (N0:Nat->Prop) (w0:Wb) (ρ:List C) (S:SS) (hv:Nat->Value) (a:Act) (w:World):Prop where
 defers:a.defers=[]
 Co:a.tmps.size=S.tmps.length
 below:tJ P w0 w
 tmps:∀t ts,S.tmps[t]?=some ts->bF ρ ts.dO->dA w (NN N0 w0.own ρ S.jd hv) ρ S.jd hv ts.sx (a.tmps.getD t undef)
 und:∀t ts,S.tmps[t]?=some ts->¬bF ρ ts.dO->a.tmps.getD t undef=undef
 jd:∀r k,S.jd[r]?=some k->bF ρ k.dO->tT w w0.own (NN N0 w0.own ρ S.jd hv) ρ S.jd hv r k.lb
 dist:∀r r' k k' g,S.jd[r]?=some k->S.jd[r']?=some k'->r≠r'->iq k=true->iq k'=true->bF ρ k.dO->bF ρ k'.dO->
  dI (hv r)=some g->dI (hv r')≠some g
theorem bE(ρ:List C):bF ρ []:=fun _ h=>by cases h
theorem Gs{ρ:List C}{p q:bq}:bF ρ (p++q)↔bF ρ p/\bF ρ q:=by
 unfold bF;constructor
 .exact fun h=>⟨fun x hx=>h x (zx.2 (.inl hx)),fun x hx=>h x (zx.2 (.inr hx))⟩
 rintro ⟨h1,h2⟩ x hx;rcases zx.1 hx with h|h
 .exact h1 x h
 exact h2 x h
theorem Gr{ρ:List C}{e:E}{b:Bool}:bF ρ [(e,b)]↔(e.eval ρ).toBool=b:=by
 simp[bF]
theorem xK{ρ:List C}{p q:bq}(h:zF p q=true)(hq:bF ρ q):bF ρ p:=by
 intro x hx;simp only[zF,pR,List.any_eq_true,bB,dQ,beq_iff_eq]at h;obtain⟨y,hy,h1,h2⟩:=h x hx;rw[h1,h2];exact hq y hy
theorem cZ.length{w:World}{N:Nat->Prop}{s:Sh}:∀{l:List C}{xs:List Value},cZ w N s xs l->xs.length=l.length*s.size
 | [],_,h=>by simp only[cZ]at h;subst h;simp
 |c::l,_,⟨u,r,h1,h2,h3⟩=>by
  subst h1;simp[h2.length,cZ.length h3,pq,Cm]
theorem cZ.mono{w w':World}{N N':Nat->Prop}(hs:w.heap.size<=w'.heap.size)(hk:∀b,N b->b<w.heap.size->w'.heap[b]?=w.heap[b]?/\N' b){s:Sh}:
  ∀{l:List C}{xs:List Value},cZ w N s xs l->cZ w' N' s xs l
 | [],_,h=>h
 |_::_,_,⟨u,r,h1,h2,h3⟩=>⟨u,r,h1,h2.mono hs hk,cZ.mono hs hk h3⟩
theorem cZ.append{w:World}{N:Nat->Prop}{s:Sh}:∀{l m:List C}{xs ys:List Value},cZ w N s xs l->cZ w N s ys m->cZ w N s (xs++ys) (l++m)
 | [],_,_,_,h,h'=>by simp only[cZ]at h;subst h;simpa using h'
 |_::_,_,_,_,⟨u,r,h1,h2,h3⟩,h'=>⟨u,r++_,by rw[h1,gJ],h2,cZ.append h3 h'⟩
theorem cZ.at_{w:World}{N:Nat->Prop}{s:Sh}:∀{l:List C}{xs:List Value}{i:Nat}{c:C},cZ w N s xs l->l[i]?=some c->
  Rd w N s ((xs.drop (i*s.size)).take s.size) c
 | [],_,_,_,_,hi=>by simp at hi
 |c::l,_,0,c',⟨u,r,h1,h2,h3⟩,hi=>by
  simp at hi;subst hi h1;simp[<-h2.length];exact h2
 |c::l,_,i+1,c',⟨u,r,h1,h2,h3⟩,hi=>by
  subst h1;have h4:=cZ.at_ h3 (by simpa using hi);have e1:(u++r).drop ((i+1)*s.size)=r.drop (i*s.size):=by
   rw[pq,Ay,<-h2.length,Cm,F5];simp
  rw[e1];exact h4
theorem cZ.drop{w:World}{N:Nat->Prop}{s:Sh}:∀{l:List C}{xs:List Value}(i:Nat),cZ w N s xs l->cZ w N s (xs.drop (i*s.size)) (l.drop i)
 | [],_,i,h=>by simp only[cZ]at h;subst h;simp[cZ]
 |_::_,_,0,h=>by simpa using h
 |_::l,_,i+1,⟨u,r,h1,h2,h3⟩=>by
  subst h1;have h4:=cZ.drop i h3;have e1:(u++r).drop ((i+1)*s.size)=r.drop (i*s.size):=by
   rw[pq,Ay,<-h2.length,Cm,F5];simp
  rw[e1];simpa using h4
theorem cZ.take{w:World}{N:Nat->Prop}{s:Sh}:∀{l:List C}{xs:List Value}(i:Nat),cZ w N s xs l->cZ w N s (xs.take (i*s.size)) (l.take i)
 | [],_,i,h=>by simp only[cZ]at h;subst h;simp[cZ]
 |_::_,_,0,h=>by simp[cZ]
 |_::l,_,i+1,⟨u,r,h1,h2,h3⟩=>by
  subst h1;have h4:=cZ.take i h3;refine⟨u,r.take (i*s.size),?_,h2,h4⟩;rw[pq,Ay,<-h2.length,Cm,List.take_append];simp;exact mO (by omega)
theorem cZ.set{w:World}{N:Nat->Prop}{s:Sh}{l:List C}{xs:List Value}{i:Nat}{u:List Value}{c:C}(h:cZ w N s xs l)(hi:i<l.length)(hu:Rd w N s u c):
  cZ w N s (xs.take (i*s.size)++(u++xs.drop ((i+1)*s.size))) (l.set i c):=by
 have e:l.set i c=l.take i++(c::l.drop (i+1)):=by
  rw[List.set_eq_take_append_cons_drop,aC hi]
 rw[e];exact(h.take i).append ⟨u,_,rfl,hu,h.drop (i+1)⟩
theorem wT.of_row{w:World}{N:Nat->Prop}{s:Sh}{b off:Nat}:∀{l:List C}{xs:List Value},cZ w N s xs l->pG w b off xs->wT w s.size (Rd w N s) b off l:=by
 intro l xs h hc i c hi;refine⟨_,(h.at_ hi).length,fun j u hu=>?_,h.at_ hi⟩;rw[sw]at hu;split at hu
 .rw[yK]at hu;have:=hc _ _ hu;rwa[<-su]at this
 cases hu
theorem wT.row{w:World}{N:Nat->Prop}{s:Sh}{b:Nat}:∀{l:List C}{off:Nat},wT w s.size (Rd w N s) b off l->∃xs,cZ w N s xs l/\pG w b off xs
 | [],_,_=>⟨[],rfl,fun _ _ h=>by simp at h⟩
 |c::l,off,h=>by
  obtain⟨u,hl,hu,hr⟩:=h 0 c rfl;obtain⟨xs,h1,h2⟩:=wT.row (l:=l) (off:=off+s.size) fun i c hi=>by
   obtain⟨us,h3,h4,h5⟩:=h (i+1) c (by simpa using hi);exact⟨us,h3,by rw[su,show s.size+i*s.size=(i+1)*s.size by rw[pq,Ay,Cm]];exact h4,h5⟩
  refine⟨u++xs,⟨u,xs,rfl,hr,h1⟩,fun j v hv=>?_⟩;rw[List.getElem?_append]at hv;split at hv
  .have:=hu j v hv;simpa using this
  have:=h2 _ v hv;rw[hl,su,Nat.add_sub_cancel' (by omega)]at this;exact this
structure lU (ρ:List C) (bs bs':List aL) (hv hv':Nat->Value):Prop where
 known:∀r,known bs r->known bs' r/\hv' r=hv r
 row:∀r s e' p,Vc.known bs r->eu bs' r=some (s,e',p)->∃e,eu bs r=some (s,e,p)/\(e.eval ρ).toList.length=(e'.eval ρ).toList.length
 box:∀r cs' p,Vc.known bs r->gZ bs' r=some (cs',p)->∃cs,gZ bs r=some (cs,p)
theorem lU.refl(ρ:List C)(bs:List aL)(hv:Nat->Value):lU ρ bs bs hv hv:=⟨fun _ h=>⟨h,rfl⟩,fun _ _ e _ _ h=>⟨e,h,rfl⟩,fun _ cs _ _ h=>⟨cs,h⟩⟩
theorem dA.le{w w':World}{N N':Nat->Prop}{ρ:List C}{bs bs':List aL}{hv hv':Nat->Value}(hs:w.heap.size<=w'.heap.size)
  (hk:∀b,N b->b<w.heap.size->w'.heap[b]?=w.heap[b]?/\N' b) (le:lU ρ bs bs' hv hv') {x:SX}{v:Value}(h:dA w N ρ bs hv x v):dA w' N' ρ bs' hv' x v:=by
 cases x with
 |none=>trivial
 |jo s e=>obtain⟨vs,h1,h2,h3⟩:=h;exact⟨vs,h1.mono hs hk,h2,h3⟩
 |res l=>obtain⟨⟨vs,h1,h2⟩,h3⟩:=h;exact⟨⟨vs,h1,h2.mono hs hk⟩,h3⟩
 |DL r n l=>
  obtain⟨hkn,v1,vr,h1,h2,h3,h4⟩:=h;refine⟨(le.known r hkn).1,v1,vr,h1,fun s e' p hr hp=>?_,h3.mono hs hk,h4⟩;obtain⟨e,he,hl⟩:=le.row r s e' p hkn hr;rw[(le.known r hkn).2,<-hl];exact h2 s e p he hp
 |full r n=>
  obtain⟨hkn,h⟩:=h;refine⟨(le.known r hkn).1,fun s e' p hr hp=>?_⟩;obtain⟨e,he,hl⟩:=le.row r s e' p hkn hr;rw[(le.known r hkn).2,<-hl];exact h s e p he hp
 |view r off n=>
  obtain⟨hkn,h⟩:=h;refine⟨(le.known r hkn).1,fun s e' p hr hp=>?_⟩;obtain⟨e,he,hl⟩:=le.row r s e' p hkn hr;rw[(le.known r hkn).2,<-hl];exact h s e p he hp
 |ref r i fo s eG=>
  obtain⟨hkn,h,h'⟩:=h;refine⟨(le.known r hkn).1,fun es e' p hr hp=>?_,fun cs' p hr hp=>?_⟩
  .obtain ⟨e,he,hl⟩:=le.row r es e' p hkn hr;rw[(le.known r hkn).2,<-hl];exact h es e p he hp
  obtain ⟨cs,hc⟩:=le.box r cs' p hkn hr;rw[(le.known r hkn).2];exact h' cs p hc hp
 |ptr s e=>
  obtain⟨b,off,us,h1,h2,h3,h4,h5,h6⟩:=h;exact⟨b,off,us,h1,(hk b h2 h3).2,nK h3 hs,h4.mono (hk b h2 h3).1,h5.mono hs hk,h6⟩
 |fn f=>exact h
 |FN e=>exact h
 |Ac t s n=>exact h
 |xG r=>obtain⟨hkn,h⟩:=h;exact⟨(le.known r hkn).1,by rw[(le.known r hkn).2];exact h⟩
 |AB r=>obtain⟨hkn,h⟩:=h;exact⟨(le.known r hkn).1,by rw[(le.known r hkn).2];exact h⟩
 |Cr s p=>exact h
 |okF=>exact h
theorem gV.le{w w':World}{N N':Nat->Prop}{ρ:List C}{bs bs':List aL}{hv hv':Nat->Value}(hs:w.heap.size<=w'.heap.size)
  (hk:∀b,N b->b<w.heap.size->w'.heap[b]?=w.heap[b]?/\N' b) (le:lU ρ bs bs' hv hv'):∀{l:List SX}{vs:List Value},gV w N ρ bs hv l vs->gV w' N' ρ bs' hv' l vs
 | [],_,h=>h
 |_::_,_,⟨v,r,h1,h2,h3⟩=>⟨v,r,h1,h2.le hs hk le,gV.le hs hk le h3⟩
theorem asB{w w':World}{B:Nat->Prop}{et:TypeId}{size:Nat}{v:Value}{n:Nat}{xs:List Value}(h:w.jL B et size v n xs)
  (hb:∀g,dI v=some g->w'.heap[g]?=w.heap[g]?):w'.jL B et size v n xs:=by
 obtain⟨h1,h2⟩:=h;refine⟨h1,?_⟩;rcases h2 with h2|⟨g,cap,cur,h3,h4,h5,h6⟩
 .exact .inl h2
 refine .inr ⟨g,cap,cur,h3,h4,?_,h6⟩;rw[hb g (by rw[h3];rfl)];exact h5
theorem tT.le{w w':World}{B:Nat->Prop}{N N':Nat->Prop}{ρ:List C}{bs bs':List aL}{hv hv':Nat->Value}(hs:w.heap.size<=w'.heap.size)
  (hk:∀b,N b->b<w.heap.size->w'.heap[b]?=w.heap[b]?/\N' b) (le:lU ρ bs bs' hv hv') {r:Nat}{lb:LB}(hr:hv' r=hv r)
  (hb:∀g,dI (hv r)=some g->w'.heap[g]?=w.heap[g]?) (h:tT w B N ρ bs hv r lb):tT w' B N' ρ bs' hv' r lb:=by
 cases lb with
 |none=>trivial
 |dead=>trivial
 |row s e=>
  obtain⟨et,xs,h1,h2,h3⟩:=h;refine⟨et,xs,?_,h2.mono hs hk,h3⟩;rw[hr];exact asB h1 hb
 |box cs=>
  obtain⟨g,bt,arr,h1,h2,h3,h4⟩:=h;refine⟨g,bt,arr,by rw[hr];exact h1,h2,?_,h4.le hs hk le⟩;rw[hb g (by rw[h1];rfl)];exact h3
 |mp k s e=>
  obtain⟨g,l,h1,h2,h3,h4⟩:=h;exact⟨g,l,by rw[hr];exact h1,h2,h3.same (hb g (by rw[h1];rfl)),h4.imp fun _ _ h=>h.mono hs hk⟩
 |sit s p=>
  obtain⟨g,q,h1,h2,h3,h4⟩:=h;exact⟨g,q,by rw[hr];exact h1,h2,h3,by rw[hb g (by rw[h1];rfl)];exact h4⟩
theorem tJ.trans{P:Program}{w0:Wb}{w w':World}(h:tJ P w0 w)(hg:Below w.heap.size w w'):tJ P w0 w':=
 ⟨hg.os.trans h.os,hg.tape.trans h.tape,hg.output.trans h.output,zw h.size hg.size,fun k hk hn=>(hg.block k (nK hk h.size)).trans (h.block k hk hn),h.kw,h.kb⟩
theorem tJ.after{P:Program}{w0:Wb}{w w':World}(h:tJ P w0 w)(h1:w'.os=w.os)(h2:w'.tape=w.tape)(h3:w'.output=w.output)(hs:w.heap.size<=w'.heap.size)
  (hk:∀k,k<w.heap.size->¬w0.own k->w'.heap[k]?=w.heap[k]?):tJ P w0 w':=
 ⟨h1.trans h.os,h2.trans h.tape,h3.trans h.output,zw h.size hs,fun k hk' hn=>
  (hk k (nK hk' h.size) (fun ho=>ho.elim (fun hle=>Nat.lt_irrefl _ (nK hk' hle)) hn)).trans (h.block k hk' hn),h.kw,h.kb⟩
theorem tJ.now{P:Program}{w0:Wb}{w:World}(h:tJ P w0 w):KW P w:=h.kw.keep fun g hg=>h.block g (h.kw.lt hg) (h.kb g hg)
theorem tJ.own{P:Program}{w0:Wb}{w:World}(h:tJ P w0 w){g:Nat}(ho:w0.own g):¬wC P g:=fun hg=>ho.elim (fun hle=>Nat.lt_irrefl _ (nK (h.kw.lt hg) hle)) (h.kb g hg)
theorem aZ.step{P:Program}{N0:Nat->Prop}{w0:Wb}{ρ:List C}{S:SS}{hv hv':Nat->Value}{a:Act}{w w':World}{bs':List aL}(h:aZ P N0 w0 ρ S hv a w)
  (le:lU ρ S.jd bs' hv hv') (hb:tJ P w0 w') (hs:w.heap.size<=w'.heap.size)
  (hk:∀b,NN N0 w0.own ρ S.jd hv b->b<w.heap.size->w'.heap[b]?=w.heap[b]?/\NN N0 w0.own ρ bs' hv' b)
  (hblk:∀r k,bs'[r]?=some k->bF ρ k.dO->tT w' w0.own (NN N0 w0.own ρ bs' hv') ρ bs' hv' r k.lb)
  (hd:∀r r' k k' g,bs'[r]?=some k->bs'[r']?=some k'->r≠r'->iq k=true->iq k'=true->bF ρ k.dO->bF ρ k'.dO->dI (hv' r)=some g->dI (hv' r')≠some g):
  aZ P N0 w0 ρ {S with jd:=bs'} hv' a w':=
 ⟨h.defers,h.Co,hb,fun t ts ht hp=>(h.tmps t ts ht hp).le hs hk le,h.und,hblk,hd⟩
theorem aZ.grow{P:Program}{N0:Nat->Prop}{w0:Wb}{ρ:List C}{S:SS}{hv:Nat->Value}{a:Act}{w w':World}(h:aZ P N0 w0 ρ S hv a w)
  (hg:Below w.heap.size w w'):aZ P N0 w0 ρ S hv a w':=by
 have hlt:∀r k g,S.jd[r]?=some k->iq k=true->bF ρ k.dO->dI (hv r)=some g->g<w.heap.size:=by
  intro r k g hr hl hp hg;have hb:=h.jd r k hr hp;obtain⟨lb,f,p⟩:=k;cases lb with
  |none=>cases hl
  |dead=>cases hl
  |row s e=>
   obtain⟨et,xs,⟨_,h2⟩,_⟩:=hb;rcases h2 with⟨h2,_⟩|⟨g',cap,cur,h3,_,h5,_⟩
   .rw[h2]at hg;cases hg
   rw[h3]at hg;injection hg with hg;subst hg;exact(iX.1 h5).1
  |box cs=>
   obtain⟨g',bt,arr,h1,_,h3,_⟩:=hb;rw[h1]at hg;injection hg with hg;subst hg;exact(iX.1 h3).1
  |mp k s e=>
   obtain⟨g',l,h1,_,⟨es,cl,h3,_⟩,_⟩:=hb;rw[h1]at hg;injection hg with hg;subst hg;exact(iX.1 h3).1
  |sit s p=>
   obtain⟨g',q,h1,_,_,h3⟩:=hb;rw[h1]at hg;injection hg with hg;subst hg;exact(iX.1 h3).1
 have hkeep:∀b,b<w.heap.size->w'.heap[b]?=w.heap[b]?:=fun b hb=>hg.block b hb;have hbel:tJ P w0 w':=h.below.trans hg;have hk:∀b,NN N0 w0.own ρ S.jd hv b->b<w.heap.size->w'.heap[b]?=w.heap[b]?/\NN N0 w0.own ρ S.jd hv b:=fun b hn hb=>⟨hkeep b hb,hn⟩;refine⟨h.defers,h.Co,hbel,fun t ts ht hp=>(h.tmps t ts ht hp).le hg.size hk (lU.refl _ _ _),h.und,fun r k hr hp=>?_,h.dist⟩;by_cases hl:iq k=true
 .exact (h.jd r k hr hp).le hg.size hk (lU.refl _ _ _) rfl fun g hgg=>hkeep g (hlt r k g hr hl hp hgg)
 obtain ⟨lb,f,p⟩:=k;cases lb with
 |none=>trivial
 |dead=>trivial
 |row s e=>exact absurd rfl hl
 |box cs=>exact absurd rfl hl
 |mp _ _ _=>exact absurd rfl hl
 |sit _ _=>exact absurd rfl hl
theorem aZ.lt{P:Program}{N0:Nat->Prop}{w0:Wb}{ρ:List C}{S:SS}{hv:Nat->Value}{a:Act}{w:World}(h:aZ P N0 w0 ρ S hv a w){r:Nat}{k:aL}{g:Nat}
  (hr:S.jd[r]?=some k) (hl:iq k=true) (hp:bF ρ k.dO) (hg:dI (hv r)=some g):g<w.heap.size/\w0.own g:=by
 have hb:=h.jd r k hr hp;obtain⟨lb,f,p⟩:=k;cases lb with
 |none=>cases hl
 |dead=>cases hl
 |row s e=>
  obtain⟨et,xs,⟨_,h2⟩,_⟩:=hb;rcases h2 with⟨h2,_⟩|⟨g',cap,cur,h3,h4,h5,_⟩
  .rw[h2]at hg;cases hg
  rw[h3]at hg;injection hg with hg;subst hg;exact⟨(iX.1 h5).1,h4⟩
 |box cs=>
  obtain⟨g',bt,arr,h1,h2,h3,_⟩:=hb;rw[h1]at hg;injection hg with hg;subst hg;exact⟨(iX.1 h3).1,h2⟩
 |mp k s e=>
  obtain⟨g',l,h1,h2,⟨es,cl,h3,_⟩,_⟩:=hb;rw[h1]at hg;injection hg with hg;subst hg;exact⟨(iX.1 h3).1,h2⟩
 |sit s p=>
  obtain⟨g',q,h1,h2,_,h3⟩:=hb;rw[h1]at hg;injection hg with hg;subst hg;exact⟨(iX.1 h3).1,h2⟩
theorem aZ.drew{P:Program}{N0:Nat->Prop}{w0:Wb}{ρ:List C}{S:SS}{hv:Nat->Value}{a:Act}{w:World}(h:aZ P N0 w0 ρ S hv a w)(n:Nat):
  aZ P N0 w0 ρ S hv a {w with drawn:=n}:=h.grow ⟨rfl,rfl,rfl,aS _,fun _ _=>rfl⟩
theorem axV{a:Act}{d:Option Tmp}{v:Value}{t:Nat}:(a.put d v).tmps.getD t undef=if d=some t/\t<a.tmps.size then v else a.tmps.getD t undef:=by
 cases d with
 |none=>simp[Act.put]
 |some d=>
  simp only[Act.put,dP];by_cases h:d=t
  .subst h;by_cases hs:d<a.tmps.size
   .simp[hs]
   .simp[hs]
  simp[h]
theorem aZ.put{P:Program}{N0:Nat->Prop}{w0:Wb}{ρ:List C}{S:SS}{hv:Nat->Value}{a:Act}{w:World}(h:aZ P N0 w0 ρ S hv a w)(d:Option Tmp)(p:bq)(x:SX)(v:Value)
  (hx:bF ρ p->dA w (NN N0 w0.own ρ S.jd hv) ρ S.jd hv x v) (hu:¬bF ρ p->v=undef):aZ P N0 w0 ρ {S with tmps:=eT S.tmps d ⟨p,x⟩} hv (a.put d v) w:=by
 have key:∀t ts,(eT S.tmps d ⟨p,x⟩)[t]?=some ts->(ts=⟨p,x⟩/\(a.put d v).tmps.getD t undef=v)\/(S.tmps[t]?=some ts/\(a.put d v).tmps.getD t undef=a.tmps.getD t undef):=by
  intro t ts ht;rw[axV];cases d with
  |none=>exact .inr ⟨ht,by simp⟩
  |some d=>
   simp only[eT]at ht;rw[Jc]at ht;by_cases hd:d=t
   .subst hd;simp only[eO]at ht;split at ht
    next hlt=>injection ht with ht;rw[aC ⟨rfl,by rw[h.Co];exact hlt⟩];exact .inl ⟨ht.symm,rfl⟩
    cases ht
   .rw[zq hd]at ht;rw[zq (by simp[hd])];exact .inr ⟨ht,rfl⟩
 refine⟨?_,?_,h.below,?_,?_,h.jd,h.dist⟩
 .cases d<;>exact h.defers
 .cases d<;>simp[Act.put,eT,h.Co]
 .intro t ts ht hp;rcases key t ts ht with⟨rfl,e⟩|⟨h1,e⟩
  .rw[e];exact hx hp
  .rw[e];exact h.tmps t ts h1 hp
 intro t ts ht hp;rcases key t ts ht with⟨rfl,e⟩|⟨h1,e⟩
 .rw[e];exact hu hp
 rw[e];exact h.und t ts h1 hp
theorem aZ.nv{P:Program}{N0:Nat->Prop}{w0:Wb}{ρ:List C}{S:SS}{hv:Nat->Value}{a:Act}{w:World}(h:aZ P N0 w0 ρ S hv a w)(n:Nat):aZ P N0 w0 ρ {S with nv:=n} hv a w:=
 ⟨h.defers,h.Co,h.below,h.tmps,h.und,h.jd,h.dist⟩
theorem KT{bs:List aL}{r r':Nat}{k:aL}(h:(bs.modify r fun b=> {b with iK:=true})[r']?=some k):
  ∃k0,bs[r']?=some k0/\k.lb=k0.lb/\k.dO=k0.dO/\(k.iK=false->k0.iK=false):=by
 rw[uZ]at h;cases hb:bs[r']? with
 |none=>simp[hb]at h
 |some k0=>
  simp[hb]at h;subst h;refine⟨k0,rfl,?_⟩;split<;>simp
theorem azt{bs:List aL}(r:Nat){r':Nat}{k:aL}(h:bs[r']?=some k):
  ∃k',(bs.modify r fun b=> {b with iK:=true})[r']?=some k'/\k'.lb=k.lb/\k'.dO=k.dO:=by
 rw[uZ,h];by_cases hr:r=r'<;>simp[hr]
theorem av3(bs:List aL)(r r':Nat):eu (bs.modify r fun b=> {b with iK:=true}) r'=eu bs r':=by
 unfold eu;rw[uZ];cases hb:bs[r']? with
 |none=>simp
 |some k0=>obtain⟨lb,f,p⟩:=k0;by_cases hr:r=r'<;>cases lb<;>simp[hr]
theorem awR(bs:List aL)(r r':Nat):gZ (bs.modify r fun b=> {b with iK:=true}) r'=gZ bs r':=by
 unfold gZ;rw[uZ];cases hb:bs[r']? with
 |none=>simp
 |some k0=>obtain⟨lb,f,p⟩:=k0;by_cases hr:r=r'<;>cases lb<;>simp[hr]
theorem NW{k k0:aL}(h:k.lb=k0.lb):iq k=iq k0:=by unfold iq;rw[h]
theorem Vd(ρ:List C)(bs:List aL)(r:Nat)(hv:Nat->Value):lU ρ bs (bs.modify r fun b=> {b with iK:=true}) hv hv:=by
 refine⟨fun r' ⟨k,h1,h2⟩=>⟨?_,rfl⟩,fun r' s e' p _ h=>⟨e',by rw[av3]at h;exact h,rfl⟩,fun r' cs p _ h=>⟨cs,by rw[awR]at h;exact h⟩⟩;obtain⟨k',h3,h4,_⟩:=azt r h1;exact⟨k',h3,by rw[h4];exact h2⟩
theorem ajd{N0:Nat->Prop}{B:Nat->Prop}{ρ:List C}{bs:List aL}{r:Nat}{hv:Nat->Value}{b:Nat}(h:NN N0 B ρ bs hv b):
  NN N0 B ρ (bs.modify r fun b=> {b with iK:=true}) hv b:=by
 refine⟨h.1,fun r' k hk hl hf hp=>?_⟩;obtain⟨k0,h1,h2,h3,h4⟩:=KT hk;exact h.2 r' k0 h1 (by rw[<-NW h2];exact hl) (h4 hf) (by rw[<-h3];exact hp)
theorem aZ.bM{P:Program}{N0:Nat->Prop}{w0:Wb}{ρ:List C}{S:SS}{hv:Nat->Value}{a:Act}{w:World}(h:aZ P N0 w0 ρ S hv a w)(r:Nat):
  aZ P N0 w0 ρ {S with jd:=S.jd.modify r fun b=> {b with iK:=true}} hv a w:=by
 have hk:∀b,NN N0 w0.own ρ S.jd hv b->b<w.heap.size->w.heap[b]?=w.heap[b]?/\NN N0 w0.own ρ (S.jd.modify r fun b=> {b with iK:=true}) hv b:=fun b hb _=>⟨rfl,ajd hb⟩;refine h.step (Vd ρ _ r hv) h.below (aS _) hk ?_ ?_
 .intro r' k hkk hp;obtain⟨k0,h1,h2,h3,_⟩:=KT hkk;rw[h2];exact(h.jd r' k0 h1 (by rw[<-h3];exact hp)).le (aS _) hk (Vd ρ _ r hv) rfl fun _ _=>rfl
 intro r1 r2 k1 k2 g h1 h2 hne hl1 hl2 hp1 hp2;obtain⟨k3,h3,e3,e3',_⟩:=KT h1;obtain⟨k4,h4,e4,e4',_⟩:=KT h2;exact h.dist r1 r2 k3 k4 g h3 h4 hne (by rw[<-NW e3];exact hl1) (by rw[<-NW e4];exact hl2) (by rw[<-e3'];exact hp1) (by rw[<-e4'];exact hp2)
theorem aZ.FV{P:Program}{N0:Nat->Prop}{w0:Wb}{ρ:List C}{hv:Nat->Value}{a:Act}{w:World}:∀(f:List Nat) {S:SS},aZ P N0 w0 ρ S hv a w->
  aZ P N0 w0 ρ {S with jd:=bP (f.map .bM) S.jd} hv a w
 | [],_,h=>h
 |r::f,_,h=>aZ.FV f (h.bM r)
theorem UA(ρ:List C)(hv:Nat->Value):∀(f:List Nat) (bs:List aL),lU ρ bs (bP (f.map .bM) bs) hv hv
 | [],bs=>lU.refl _ _ _
 |r::f,bs=>by
  have h1:=Vd ρ bs r hv;have h2:=UA ρ hv f (bs.modify r fun b=> {b with iK:=true});refine⟨fun q hq=>?_,fun q s e' p hq h=>?_,fun q cs' p hq h=>?_⟩
  .exact ⟨(h2.known q (h1.known q hq).1).1,rfl⟩
  .obtain ⟨e,he,hl⟩:=h2.row q s e' p (h1.known q hq).1 h;obtain⟨e0,he0,hl0⟩:=h1.row q s e p hq he;exact⟨e0,he0,hl0.trans hl⟩
  obtain ⟨cs,hc⟩:=h2.box q cs' p (h1.known q hq).1 h;exact h1.box q cs p hq hc
theorem UC{N0:Nat->Prop}{B:Nat->Prop}{ρ:List C}{hv:Nat->Value}{b:Nat}:∀(f:List Nat) {bs:List aL},NN N0 B ρ bs hv b->NN N0 B ρ (bP (f.map .bM) bs) hv b
 | [],_,h=>h
 |_::f,_,h=>UC f (ajd h)
theorem agN{bs:List aL}{r:Nat}{k:aL}:∀(f:List Nat),r∈f->(bP (f.map .bM) bs)[r]?=some k->k.iK=true:=by
 intro f;have keep:∀(f:List Nat) (bs:List aL) (k:aL),(∀k0,bs[r]?=some k0->k0.iK=true)->(bP (f.map .bM) bs)[r]?=some k->k.iK=true:=by
  intro f;induction f with
  |nil=>intro bs k h1 h2;exact h1 k h2
  |cons q f ih=>
   intro bs k h1 h2;refine ih _ k (fun k0 hk0=>?_) h2;change (bs.modify q fun b=> {b with iK:=true})[r]?=some k0 at hk0
   rw[uZ]at hk0;cases hb:bs[r]? with
   |none=>simp[hb]at hk0
   |some k1=>
    simp[hb]at hk0;subst hk0;split
    .rfl
    .exact h1 k1 hb
 induction f generalizing bs with
 |nil=>intro h;cases h
 |cons q f ih=>
  intro hm hr;rcases iR.1 hm with h|h
  .subst h;refine keep f _ k (fun k0 hk0=>?_) hr;change (bs.modify r fun b=> {b with iK:=true})[r]?=some k0 at hk0
   rw[uZ]at hk0;cases hb:bs[r]? with
   |none=>simp[hb]at hk0
   |some k1=>
    simp[hb]at hk0;subst hk0;rfl
  exact ih h hr
def upd(hv:Nat->Value)(d:Nat)(v:Value):Nat->Value:=fun r=>if r=d then v else hv r
theorem J7{bs:List aL}{d:Nat}(h:jU (bT bs) d=true):∃k,bs[d]?=some k/\k.lb=.none:=by
 unfold jU bT at h;cases hb:bs[d]? with
 |none=>simp[hb]at h
 |some k=>obtain⟨lb,f,p⟩:=k;simp[hb]at h;cases lb<;>simp_all
theorem aiZ(ρ:List C){bs:List aL}{d:Nat}(hd:∃k,bs[d]?=some k/\k.lb=.none)(b:aL)(hv:Nat->Value)(v:Value):lU ρ bs (bs.set d b) hv (upd hv d v):=by
 obtain⟨k0,hk0,hn⟩:=hd;have hne:∀r,known bs r->r≠d:=by
  rintro r ⟨k,h1,h2⟩ rfl;rw[hk0]at h1;injection h1 with h1;subst h1;exact h2 hn
 refine⟨fun r hr=>⟨?_,by simp[upd,hne r hr]⟩,fun r s e p hr h=>⟨e,?_,rfl⟩,fun r cs p hr h=>⟨cs,?_⟩⟩
 .obtain ⟨k,h1,h2⟩:=hr;exact⟨k,by rw[fZ (hne r ⟨k,h1,h2⟩).symm];exact h1,h2⟩
 .unfold eu at h |-;rwa[fZ (hne r hr).symm]at h
 unfold gZ at h |-;rwa[fZ (hne r hr).symm]at h
theorem aZ.new{P:Program}{N0:Nat->Prop}{w0:Wb}{ρ:List C}{S:SS}{hv:Nat->Value}{a:Act}{w w':World}(h:aZ P N0 w0 ρ S hv a w){d:Nat}
  (hd:∃k,S.jd[d]?=some k/\k.lb=.none) (lb:LB) (pc:bq) (v:Value) (hw:Below w.heap.size w w') (hbn:∀g,dI v=some g->w.heap.size<=g)
  (hok:bF ρ pc->tT w' w0.own (NN N0 w0.own ρ (S.jd.set d ⟨lb,false,pc⟩) (upd hv d v)) ρ (S.jd.set d ⟨lb,false,pc⟩) (upd hv d v) d lb):
  aZ P N0 w0 ρ {S with jd:=S.jd.set d ⟨lb,false,pc⟩} (upd hv d v) a w'/\
   (∀b,NN N0 w0.own ρ S.jd hv b->b<w.heap.size->w'.heap[b]?=w.heap[b]?/\NN N0 w0.own ρ (S.jd.set d ⟨lb,false,pc⟩) (upd hv d v) b):=by
 have hle:=aiZ ρ hd ⟨lb,false,pc⟩ hv v;have hdl:d<S.jd.length:=by obtain⟨k,hk,_⟩:=hd;exact(zy.1 hk).1
 have hk:∀b,NN N0 w0.own ρ S.jd hv b->b<w.heap.size->w'.heap[b]?=w.heap[b]?/\NN N0 w0.own ρ (S.jd.set d ⟨lb,false,pc⟩) (upd hv d v) b:=by
  intro b hb hlt;refine⟨hw.block b hlt,hb.1,fun r k hr hl hf hp=>?_⟩;by_cases hrd:r=d
  .subst hrd;simp only[upd,eO];intro hc;have:=hbn b hc;omega
  .rw[fZ (fun e=>hrd e.symm)]at hr;simp only[upd,zq hrd];exact hb.2 r k hr hl hf hp
 refine⟨h.step hle (h.below.trans hw) hw.size hk ?_ ?_,hk⟩
 .intro r k hr hp;by_cases hrd:r=d
  .subst hrd;rw[nV hdl]at hr;injection hr with hr;subst hr;exact hok hp
  .rw[fZ (fun e=>hrd e.symm)]at hr;by_cases hl:iq k=true
   .exact (h.jd r k hr hp).le hw.size hk hle (by simp[upd,hrd]) fun g hg=>hw.block g (h.lt hr hl hp hg).1
   .obtain ⟨lb',f,p⟩:=k;cases lb' with
    |none=>trivial
    |dead=>trivial
    |row s e=>exact absurd rfl hl
    |box cs=>exact absurd rfl hl
    |mp _ _ _=>exact absurd rfl hl
    |sit _ _=>exact absurd rfl hl
 intro r r' k k' g hr hr' hne hl hl' hp hp' hg hg';by_cases hrd:r=d
 .subst hrd;rw[fZ hne]at hr';simp only[upd,eO,zq hne.symm]at hg hg';have h1:=hbn g hg;have h2:=(h.lt hr' hl' hp' hg').1;omega
 rw[fZ (fun e=>hrd e.symm)]at hr;simp only[upd,zq hrd]at hg;by_cases Qb:r'=d
 .subst Qb;simp only[upd,eO]at hg';have h1:=hbn g hg';have h2:=(h.lt hr hl hp hg).1;omega
 rw[fZ (fun e=>Qb e.symm)]at hr';simp only[upd,zq Qb]at hg';exact h.dist r r' k k' g hr hr' hne hl hl' hp hp' hg hg'
section
variable{w:World}{N:Nat->Prop}{ρ:List C}{bs:List aL}{hv:Nat->Value}{e:E}{v:Value}
theorem jB{k:IntKind}:dA w N ρ bs hv (.jo (.int k) e) v↔v=.int k (e.eval ρ).toInt:=by
 simp[dA,Rd,Sh.mk,Sh.isAgg,Exact]
theorem nD:dA w N ρ bs hv (.jo .bool e) v↔v=.bool (e.eval ρ).toBool:=by
 simp[dA,Rd,Sh.mk,Sh.isAgg,Exact]
theorem uD:dA w N ρ bs hv (.jo .str e) v↔v=.string ⟨(e.eval ρ).jk.toArray⟩:=by
 simp[dA,Rd,Sh.mk,Sh.isAgg,Exact]
theorem H8{s:Sh}(h:dA w N ρ bs hv (.jo (.sl s) e) v):Rd w N (.sl s) [v] (e.eval ρ):=by
 obtain⟨vs,h1,h2,_⟩:=h;obtain⟨a,cap,h3,_⟩:=id h1;rw[h3]at h2;rw[h2];simp only[Sh.mk,Sh.isAgg];rw[h3]at h1;exact h1
theorem Hr{s:Sh}(h:dA w N ρ bs hv (.jo s e) v):bV w N s v (e.eval ρ):=let ⟨vs,h1,h2,_⟩:=h;⟨vs,h1,h2⟩
theorem zP{s:Sh}(h:bV w N s v (e.eval ρ))(hx:∀vs,Exact s e vs):dA w N ρ bs hv (.jo s e) v:=let ⟨vs,h1,h2⟩:=h;⟨vs,h1,h2,hx vs⟩
end
theorem sS{s:Sh}{e:E}(h:e≠.bg)(hc:∀x y,e≠.cons x y)(vs:List Value):Exact s e vs:=by
 cases s<;>cases e<;>first|trivial|exact absurd rfl h|exact absurd rfl (hc _ _)
theorem Q0{w:World}{N:Nat->Prop}{ρ:List C}:∀{s:Sh}{vs:List Value}{e:E}{r:List Value},rV s vs=some (e,r)->
  ∃us,vs=us++r/\Rd w N s us (e.eval ρ)/\Exact s e us:=by
 intro s;induction s with
 |int k=>
  intro vs e r h;unfold rV at h;split at h<;>simp_all;obtain⟨rfl,rfl,rfl⟩:=h;exact⟨[.int _ _],rfl,by simp[Rd,E.eval],by simp[Exact]⟩
 |bool=>
  intro vs e r h;unfold rV at h;split at h<;>simp_all;obtain⟨rfl,rfl⟩:=h;exact⟨[.bool _],rfl,by simp[Rd,E.eval],by simp[Exact]⟩
 |str=>
  intro vs e r h;unfold rV at h;split at h<;>simp_all;obtain⟨rfl,rfl⟩:=h;exact⟨[.string _],rfl,by simp[Rd,E.eval],by simp[Exact]⟩
 |sl s ih=>
  intro vs e r h;unfold rV at h;split at h<;>simp_all;obtain⟨rfl,rfl⟩:=h;exact⟨[.slice none 0 0],rfl,⟨none,0,by simp[E.eval],by simp[E.eval],by simp,fun h=>by simp[E.eval]at h⟩,by simp[Exact]⟩
 |je=>
  intro vs e r h;simp[rV]at h;obtain⟨rfl,rfl⟩:=h;exact⟨[],rfl,by simp[Rd],by simp[Exact]⟩
 |jc a b iha ihb=>
  intro vs e r h;simp only[rV]at h;split at h
  .rename_i hb;split at h
   .rename_i x r1 h1;split at h
    .rename_i y r2 h2;simp at h;obtain⟨rfl,rfl⟩:=h;obtain⟨u1,e1,g1,x1⟩:=iha h1;obtain⟨u2,e2,g2,x2⟩:=ihb h2;refine⟨u1++u2,by rw[e1,e2,gJ],⟨hb,u1,u2,rfl,?_,?_⟩,⟨u1,u2,rfl,g1.length,x1,x2⟩⟩
     .simpa [E.eval,C.hd]using g1
     .exact g2.zG hb (by simp[E.eval,C.tl])
    simp at h
   .simp at h
  simp at h
 |dB _ _ _=>intro vs e r h;simp[rV]at h
 |kP=>intro vs e r h;simp[rV]at h
 |fH _=>intro vs e r h;simp[rV]at h
 |mp _ _ _=>intro vs e r h;simp[rV]at h
theorem arU{w:World}{N:Nat->Prop}{ρ:List C}{bs:List aL}{hv:Nat->Value}{s:Option Sh}{v:Value}{x:SX}(h:UG s v=some x):dA w N ρ bs hv x v:=by
 unfold UG at h;split at h
 .injection h with h;subst h;rw[jB];rfl
 .injection h with h;subst h;rw[nD];rfl
 .injection h with h;subst h;rw[uD];rfl
 .injection h with h;subst h;exact⟨[.nilIface],rfl,rfl,trivial⟩
 .injection h with h;subst h;trivial
 .injection h with h;subst h;exact⟨[.slice none 0 0],⟨none,0,by simp[E.eval],by simp[E.eval],by simp,fun h=>by simp[E.eval]at h⟩,by simp[Sh.mk,Sh.isAgg],by simp[Exact]⟩
 .rename_i cs s;split at h
  .rename_i ha;split at h
   next e hu=>injection h with h;subst h;obtain⟨us,h1,h2,h3⟩:=Q0 (w:=w) (N:=N) (ρ:=ρ) hu;simp at h1;exact⟨us,h2,by simp[Sh.mk,ha,<-h1],h3⟩
   simp at h
  .simp at h
 simp at h
theorem dD{P:Program}{N0:Nat->Prop}{w0:Wb}{ρ:List C}{S:SS}{hv:Nat->Value}{a:Act}{w:World}(h:aZ P N0 w0 ρ S hv a w){pc:bq}(hp:bF ρ pc)
  {x:Operand}{t:TypeId}{sx:SX}(he:S.ev P pc x t=some sx):dA w (NN N0 w0.own ρ S.jd hv) ρ S.jd hv sx (a.eval x):=by
 unfold SS.ev at he;cases x with
 |tmp i=>
  simp only at he;cases ht:S.tmps[i]? with
  |none=>simp[ht]at he
  |some ts=>
   simp only[ht]at he;split at he
   next hsub=>injection he with he;subst he;exact h.tmps i ts ht (xK hsub hp)
   simp at he
 |const v=>exact arU he
 |global g=>simp at he
 |func f=>
  injection he with he;subst he;rfl
def Ob.holds(P:Program)(ρ:List C)(nv:Nat):Ob->Prop
 | .ak p e=>bF ρ p->(e.eval ρ).toBool=true
 | .call p f args aK=>bF ρ p->PC P f (gB ρ args) (aK.zip ((ρ.drop nv).take aK.length))/\(aK=[]\/nv+aK.length<=ρ.length)
def fG(P:Program)(ρ:List C):Nat->List Ob->Prop
 |_,[]=>True
 |nv,o::l=>o.holds P ρ nv/\fG P ρ (nv+o.vars) l
theorem xO{P:Program}{ρ:List C}:∀{l m:List Ob}{nv:Nat},fG P ρ nv (l++m)↔fG P ρ nv l/\fG P ρ (nv+(l.map Ob.vars).sum) m
 | [],m,nv=>by simp[fG]
 |o::l,m,nv=>by simp[fG,xO (l:=l),su,and_assoc]
theorem Da{P:Program}{ρ:List C}{pc:bq}(hp:bF ρ pc){e:E}:∀{nv:Nat},fG P ρ nv (ak pc e)->(e.eval ρ).toBool=true:=by
 intro nv h;unfold ak at h;split at h
 .split at h
  .simp_all[E.eval,mY]
  exact h.1 hp
 .split at h
  .simp_all[E.eval,mY]
  exact h.1 hp
 .split at h
  .simp_all[E.eval,mY]
  .exact h.1 hp
 exact h.1 hp
theorem awW(pc:bq)(e:E):((ak pc e).map Ob.vars).sum=0:=by
 unfold ak;split<;>(try split)<;>simp[Ob.vars]
theorem Kk{P:Program}{ρ:List C}{pc:bq}(hp:bF ρ pc){e:E}{l:List Ob}{nv:Nat}(h:fG P ρ nv (ak pc e++l)):(e.eval ρ).toBool=true/\fG P ρ nv l:=by
 rw[xO,awW]at h;exact⟨Da hp h.1,h.2⟩
section
variable{P:Program}{w:World}{N:Nat->Prop}{ρ:List C}{bs:List aL}{hv:Nat->Value}
theorem aff(op:BinOp)(hop:op=.shl\/op=.shr)(t:TypeId)(k k':IntKind)(x y:Int)(hy:0<=y):(binOp op t (.int k x) (.int k' y)).run P w=.ok (.int k (arith op k x y)) w:=by
 have h:¬y<0:=by omega
 rcases hop with rfl|rfl<;>simp[binOp,Op.shift,h,arith]
theorem J3(op:BinOp)(hop:op=.add\/op=.sub\/op=.mul\/op=.and\/op=.or\/op=.xor\/op=.andNot)(t:TypeId)(k:IntKind)(x y:Int):
  (binOp op t (.int k x) (.int k y)).run P w=.ok (.int k (arith op k x y)) w:=by
 rcases hop with rfl|rfl|rfl|rfl|rfl|rfl|rfl<;>simp[binOp,Op.intArith,Op.intBits,arith]
theorem ahr(op:BinOp)(hop:op=.quo\/op=.rem)(t:TypeId)(k:IntKind)(x y:Int)(hy:y≠0):
  (binOp op t (.int k x) (.int k y)).run P w=.ok (.int k (arith op k x y)) w:=by
 rcases hop with rfl|rfl<;>simp[binOp,Op.intDiv,arith,hy]
theorem ayP(op:BinOp)(hop:op=.eql\/op=.neq\/op=.lss\/op=.leq\/op=.gtr\/op=.geq)(t:TypeId)(k:IntKind)(x y:Int):
  (binOp op t (.int k x) (.int k y)).run P w=.ok (.bool (mY op x y)) w:=by
 rcases hop with rfl|rfl|rfl|rfl|rfl|rfl<;>simp[binOp,Op.intCmp,mY]
theorem axi(op:BinOp)(hop:op=.eql\/op=.neq\/op=.lss\/op=.leq\/op=.gtr\/op=.geq)(t:TypeId)(x y:List UInt8):
  (binOp op t (.string ⟨x.toArray⟩) (.string ⟨y.toArray⟩)).run P w=.ok (.bool (yD op x y)) w:=by
 rcases hop with rfl|rfl|rfl|rfl|rfl|rfl<;>simp[binOp,Op.stringOp,yD]
def Value.plain:Value->Bool
 | .int .. | .bool _| .string _=>true
 |_=>false
theorem QL(op:BinOp)(t:TypeId)(x y:Operand)(a b:Value)(h:Value.plain a=true):(eqGuard op t x y a b).run P w=.ok () w:=by
 cases a<;>simp[Value.plain]at h<;>cases op<;>simp[eqGuard]
theorem run_equalIn_bool(d:Nat)(t:TypeId)(ht:P.underlying t=some .bool)(x y:Bool):(Op.equalIn (d+1) t (.bool x) (.bool y)).run P w=.ok (x==y) w:=by
 simp[Op.equalIn,dR ht]
theorem ayS(t:TypeId)(ht:P.underlying t=some .bool)(x y:Bool):(binOp .eql t (.bool x) (.bool y)).run P w=.ok (.bool (x==y)) w:=by
 simp only[binOp];simp[Op.equal,Op.maxDepth,run_equalIn_bool 9999 t ht]
theorem ayR(t:TypeId)(ht:P.underlying t=some .bool)(x y:Bool):(binOp .neq t (.bool x) (.bool y)).run P w=.ok (.bool (!(x==y))) w:=by
 simp only[binOp];simp[Op.equal,Op.maxDepth,run_equalIn_bool 9999 t ht]
theorem bytes_append(x y:List UInt8):(⟨x.toArray⟩:ByteArray)++⟨y.toArray⟩=⟨(x++y).toArray⟩:=by
 apply ByteArray.ext;simp
theorem ayQ(t:TypeId)(x y:List UInt8)(h:(x.length:Int)+(y.length:Int)<=9223372036854775807):(binOp .add t (.string ⟨x.toArray⟩) (.string ⟨y.toArray⟩)).run P w=.ok (.string ⟨(x++y).toArray⟩) w:=by
 have h1:¬(9223372036854775807<(x.length:Int)+(y.length:Int)):=by omega
 simp[binOp,Op.stringOp,ByteArray.size,IntKind.max,IntKind.signed,IntKind.bits,h1,bytes_append]
theorem avH(k:IntKind)(n:Int)(h1:k.min<=n)(h2:n<=k.max):k.wrap n=n:=by
 cases k<;>simp[IntKind.min,IntKind.max,IntKind.signed,IntKind.bits]at h1 h2<;>simp[IntKind.wrap,IntKind.signed,IntKind.bits]<;>omega
theorem am9(d:Nat)(t:TypeId){et:TypeId}(ht:P.underlying t=some (.slice et))(ad:Option Addr)(n cap:Nat):(Op.equalIn (d+1) t (.slice ad n cap) (.slice none 0 0)).run P w=.ok ad.isNone w:=by
 cases ad<;>simp[Op.equalIn,dR ht]
theorem axj(t:TypeId){et:TypeId}(ht:P.underlying t=some (.slice et))(ox oy:Operand)(ad:Option Addr)(n cap:Nat):
  (do eqGuard .eql t ox oy (.slice ad n cap) (.slice none 0 0);binOp .eql t (.slice ad n cap) (.slice none 0 0):Sem Value).run P w=.ok (.bool ad.isNone) w:=by
 have hg:(eqGuard .eql t ox oy (.slice ad n cap) (.slice none 0 0)).run P w=.ok () w:=by simp[eqGuard]
 simp only[iB,hg,sG];simp only[binOp];simp[Op.equal,Op.maxDepth,am9 9999 t ht]
def o7(P:Program)(w:World)(N:Nat->Prop)(ρ:List C)(bs:List aL)(hv:Nat->Value)(m:Sem Value)(x:SX):Prop:=
 ∃v,m.run P w=.ok v w/\dA w N ρ bs hv x v
theorem avy{raw : Bool}{pc : bq}{op : BinOp}{xt : TypeId}{s s' : Sh}{ex ey : E}{out : Out}{vx vy : Value}{ox oy : Operand}{nv : Nat}
    (h : BS P raw pc op xt s ex s' ey = some out) (hagg : s.isAgg = false) (hp : bF ρ pc) (ho : fG P ρ nv out.ji)
    (hx : dA w N ρ bs hv (.jo s ex) vx) (hy : dA w N ρ bs hv (.jo s' ey) vy) :
    out.jq = [] /\ out.nv = 0 /\ o7 P w N ρ bs hv (do eqGuard op xt ox oy vx vy; binOp op xt vx vy) out.x := by
  unfold BS at h;split at h
  . rename_i k k'
    rw [jB]at hx hy;subst hx hy;have hg : ∀ op, (eqGuard op xt ox oy (.int k (ex.eval ρ).toInt) (.int k' (ey.eval ρ).toInt)).run P w =.ok () w := fun op => QL op xt ox oy _ _ rfl;split at h
    . injection h with h
      subst h;have h0 := Da hp ho;simp [E.eval, mY]at h0;exact⟨rfl, rfl, _, by simp [hg, aff .shl (.inl rfl) xt k k' _ _ h0]; rfl, by rw [jB]; rfl⟩
    . injection h with h
      subst h;have h0 := Da hp ho;simp [E.eval, mY]at h0;exact⟨rfl, rfl, _, by simp [hg, aff .shr (.inr rfl) xt k k' _ _ h0]; rfl, by rw [jB]; rfl⟩
    . split at h
      . simp at h
      . rename_i hk
        simp only [ne_eq, Jj]at hk;subst hk;have Tg : ∀ op', op' = op -> (op =.add \/ op =.sub \/ op =.mul) -> (if(raw && k ==.i64) = true then some { x := SX.jo (.int k) (.raw op ex ey), ji := [Ob.ak pc (.fits k (.raw op ex ey))] : Out }
            else some { x :=.jo (.int k) (.bin op k ex ey) }) = some out ->
            out.jq = [] /\ out.nv = 0 /\ o7 P w N ρ bs hv (do eqGuard op xt ox oy (.int k (ex.eval ρ).toInt) (.int k (ey.eval ρ).toInt); binOp op xt (.int k (ex.eval ρ).toInt) (.int k (ey.eval ρ).toInt)) out.x := by
          intro op' _ hop h;have hr := J3 (P := P) (w := w) op (by rcases hop with h | h | h <;> simp [h]) xt k (ex.eval ρ).toInt (ey.eval ρ).toInt;split at h
          . injection h with h
            subst h;have h0 := ho.1 hp;refine⟨rfl, rfl, _, by simp [hg, hr]; rfl, ?_⟩;rw [jB];rcases hop with rfl | rfl | rfl <;> simp only [E.eval, arith, sU, C.toInt_int, C.MQ]at h0 |- <;> rw [avH k _ (ng h0).1 (ng h0).2]
          . injection h with h
            subst h;exact⟨rfl, rfl, _, by simp [hg, hr]; rfl, by rw [jB]; rfl⟩
        split at h
        . exact Tg _ rfl (by simp) h
        . exact Tg _ rfl (by simp) h
        . exact Tg _ rfl (by simp) h
        . injection h with h
          subst h;have h0 := Da hp ho;simp [E.eval, mY]at h0;exact⟨rfl, rfl, _, by simp [hg, ahr .quo (.inl rfl) xt k _ _ h0]; rfl, by rw [jB]; rfl⟩
        . injection h with h
          subst h;have h0 := Da hp ho;simp [E.eval, mY]at h0;exact⟨rfl, rfl, _, by simp [hg, ahr .rem (.inr rfl) xt k _ _ h0]; rfl, by rw [jB]; rfl⟩
        . injection h with h; subst h; exact⟨rfl, rfl, _, by simp [hg, J3 .and (by simp) xt k]; rfl, by rw [jB]; rfl⟩
        . injection h with h; subst h; exact⟨rfl, rfl, _, by simp [hg, J3 .or (by simp) xt k]; rfl, by rw [jB]; rfl⟩
        . injection h with h; subst h; exact⟨rfl, rfl, _, by simp [hg, J3 .xor (by simp) xt k]; rfl, by rw [jB]; rfl⟩
        . injection h with h; subst h; exact⟨rfl, rfl, _, by simp [hg, J3 .andNot (by simp) xt k]; rfl, by rw [jB]; rfl⟩
        . injection h with h
          subst h;have hop : op =.eql \/ op =.neq \/ op =.lss \/ op =.leq \/ op =.gtr \/ op =.geq := by cases op <;> simp_all
          exact⟨rfl, rfl, _, by simp [hg, ayP op hop xt k]; rfl, by rw [nD]; rfl⟩
  . rw [uD]at hx hy
    subst hx hy;have hg : ∀ op, (eqGuard op xt ox oy (.string ⟨(ex.eval ρ).jk.toArray⟩) (.string ⟨(ey.eval ρ).jk.toArray⟩)).run P w =.ok () w := fun op => QL op xt ox oy _ _ rfl;split at h
    . injection h with h
      subst h;have h0 := ho.1 hp;simp [E.eval, sU, IntKind.max, IntKind.signed, IntKind.bits]at h0;refine⟨rfl, rfl,.string ⟨((ex.eval ρ).jk ++ (ey.eval ρ).jk).toArray⟩, ?_, by rw [uD]; rfl⟩;simp [hg, ayQ xt _ _ h0.2]
    all_goals
      first
      | (injection h with h
         subst h;exact⟨rfl, rfl, _, by simp [hg, axi]; rfl, by rw [nD]; rfl⟩)
      | simp at h
  . rw [nD]at hx hy
    subst hx hy;have hg : ∀ op, (eqGuard op xt ox oy (.bool (ex.eval ρ).toBool) (.bool (ey.eval ρ).toBool)).run P w =.ok () w := fun op => QL op xt ox oy _ _ rfl;split at h
    . rename_i ht
      injection h with h;subst h;exact⟨rfl, rfl, _, by simp [hg, ayS xt ht]; rfl, by rw [nD]; rfl⟩
    . rename_i ht
      injection h with h;subst h;exact⟨rfl, rfl, _, by simp [hg, ayR xt ht]; rfl, by rw [nD]; rfl⟩
    . simp at h
  . split at h
    . rename_i hu
      injection h with h;subst h;obtain⟨vs, h1, h2, _⟩ := hx;obtain⟨vs', h3, h4, h5⟩ := hy;simp only [Exact]at h5;subst h5;obtain⟨ad, cap, h6, h7, h8, h9⟩ := h1;subst h6 h2 h4;refine⟨rfl, rfl,.bool ad.isNone, ?_, ad.isNone, rfl, fun hn => ?_⟩
      . simp only [Sh.mk, Sh.isAgg]
        exact axj xt hu ox oy ad _ cap
      . cases ad with
        | some ad => simp at hn
        | none =>
          apply Classical.byContradiction;intro hne;obtain⟨b, off, h10, _⟩ := h9 hne;cases h10
    . simp at h
  . simp [hagg]at h
theorem atz{c:Option SX}{fa fb:E->Option SX}{out:Out}{vc va vb:Value}(h:Le c fa fb=some out)(hc:∀x,c=some x->dA w N ρ bs hv x vc)
  (ha:∀e x,c=some (.jo .bool e)->(e.eval ρ).toBool=true->fa e=some x->dA w N ρ bs hv x va) (hb:∀e x,c=some (.jo .bool e)->(e.eval ρ).toBool=false->fb e=some x->dA w N ρ bs hv x vb):
  out.jq=[]/\out.nv=0/\out.ji=[]/\o7 P w N ρ bs hv (do pure (if <-asBool vc then va else vb)) out.x:=by
 unfold Le at h;split at h
 .rename_i ec;split at h
  .rename_i s ea s' eb h1 h2;split at h
   .rename_i hs;subst hs;injection h with h;subst h;have hcc:=hc _ rfl;rw[nD]at hcc;subst hcc;refine⟨rfl,rfl,rfl,if(ec.eval ρ).toBool then va else vb,by simp[asBool],?_⟩;have hx:∀vs,Exact s (.ite ec ea eb) vs:=sS (by simp) (by simp);by_cases hcb:(ec.eval ρ).toBool=true
    .refine zP ?_ hx;have:=Hr (ha ec _ rfl hcb h1);simpa[E.eval,hcb]using this
    .have hcb:(ec.eval ρ).toBool=false:=by simpa using hcb
     refine zP ?_ hx;have:=Hr (hb ec _ rfl hcb h2);simpa[E.eval,hcb]using this
   simp at h
  .simp at h
 simp at h
theorem avN{op:UnOp}{x:Option SX}{out:Out}{v:Value}(h:Mh op x=some out)(hx:∀y,x=some y->dA w N ρ bs hv y v):
  out.jq=[]/\out.nv=0/\out.ji=[]/\o7 P w N ρ bs hv (Op.unary op v) out.x:=by
 unfold Mh at h;split at h
 .injection h with h;subst h;have h1:=hx _ rfl;rw[nD]at h1;subst h1;exact⟨rfl,rfl,rfl,_,by simp[Op.unary];rfl,by rw[nD];rfl⟩
 .injection h with h;subst h;have h1:=hx _ rfl;rw[jB]at h1;subst h1;exact⟨rfl,rfl,rfl,_,by simp[Op.unary,Op.intArith];rfl,by rw[jB];simp[E.eval,arith]⟩
 .injection h with h;subst h;have h1:=hx _ rfl;rw[jB]at h1;subst h1;exact⟨rfl,rfl,rfl,_,by simp[Op.unary,Op.intBits];rfl,by rw[jB];simp[E.eval]⟩
 simp at h
end
def look(l:List (Int×Value))(x:Int):Option Value:=(l.find? fun p=>p.1==x).map (·.2)
def lQ:List (Int×Value)->Int->Value->List (Int×Value)
 | [],x,v=> [(x,v)]
 |p::l,x,v=>if p.1=x then(x,v)::l else p::lQ l x v
theorem rD.new(w:World)(kk:IntKind):rD (w.alloc (.map #[] 0)) w.heap.size kk []:=⟨#[],0,xB w _,rfl⟩
theorem rD.lt{w:World}{b:Nat}{kk:IntKind}{l:List (Int×Value)}(h:rD w b kk l):b<w.heap.size:=by
 obtain⟨es,clock,hb,_⟩:=h;exact(iX.1 hb).1
theorem Ri(w : World)(x y : Value)(t : TypeId) : ∀ j u, [x, y][j]? = some u -> (w.alloc (.cells #[x, y] t)).cell? ((⟨w.heap.size, 0, none⟩ : Addr).add j) = some u := by
  intro j u hj;have h := xB w (.cells #[x, y] t);match j, hj with
  | 0, hj => obtain rfl : x = u := by simpa using hj
             show(match(w.alloc (.cells #[x, y] t)).heap[w.heap.size]? with | some (.cells c _ _) => _ | _ => none) = _;rw [h];rfl
  | 1, hj => obtain rfl : y = u := by simpa using hj
             show(match(w.alloc (.cells #[x, y] t)).heap[w.heap.size]? with | some (.cells c _ _) => _ | _ => none) = _;rw [h];rfl
theorem RO{kk:IntKind}(x:Int):∀(es:List MapEntry) (l:List (Int×Value)) (i:Nat),es.map (fun e=>(e.key,e.val))=l.map (fun p=>(.int kk p.1,p.2))->
  ∃r,Instr.findNow (.int kk) (.int kk x) es i=some r/\(r=none/\look l x=none/\(∀p∈l,p.1≠x)\/∃j v,r=some (i+j,v)/\look l x=some v/\∃p,l[j]?=some p/\p.1=x/\∀q∈l.take j,q.1≠x)
 | [],[],i,_=>⟨none,rfl,.inl ⟨rfl,rfl,by simp⟩⟩
 | [],_::_,_,h=>by simp at h
 |_::_,[],_,h=>by simp at h
 |e::es,p::l,i,h=>by
  simp only[jG,kE,iG]at h;obtain⟨⟨h1,h2⟩,h3⟩:=h;by_cases hx:p.1=x
  .refine ⟨some (i,e.val),?_,.inr ⟨0,e.val,rfl,by simp[look,hx,h2],p,rfl,hx,by simp⟩⟩;simp[Instr.findNow,h1,Instr.sameNow,hx]
  obtain ⟨r,hr,hc⟩:=RO x es l (i+1) h3;have hn:Instr.findNow (.int kk) (.int kk x) (e::es) i=Instr.findNow (.int kk) (.int kk x) es (i+1):=by
   have:¬x=p.1:=fun e=>hx e.symm;have:(x==p.1)=false:=by simpa using this
   simp only[Instr.findNow,h1,Instr.sameNow,eO,this]
  refine⟨r,hn.trans hr,?_⟩;have hl:look (p::l) x=look l x:=by simp[look,hx]
  rcases hc with⟨c1,c2,c3⟩|⟨j,v,c1,c2,q,c3,c4,c5⟩
  .exact .inl ⟨c1,hl.trans c2,fun q hq=>by rcases iR.1 hq with rfl|hq;exact hx;exact c3 q hq⟩
  refine .inr ⟨j+1,v,by rw[c1];congr 2;omega,hl.trans c2,q,by simpa using c3,c4,fun z hz=>?_⟩;rw[Cb]at hz;rcases iR.1 hz with rfl|hz
  .exact hx
  exact c5 z hz
section
variable{P:Program}{w:World}{b:Nat}{kk:IntKind}{l:List (Int×Value)}{t k e:TypeId}
theorem run_findKey(hk:P.underlying k=some (.int kk)){es:Array MapEntry}(x:Int){r:Option (Nat×Value)}(hr:Instr.findNow (.int kk) (.int kk x) es.toList 0=some r):
  (Instr.findKey k (.int kk x) es.toList).run P w=.ok r w:=by
 simp[Instr.findKey,dR hk,hr]
theorem run_checkKey(hk:P.underlying k=some (.int kk))(x:Int)(em:Bool):(Instr.checkKey em 10000 k (.int kk x)).run P w=.ok () w:=by
 rw[show(10000:Nat)=9999+1 from rfl,Instr.checkKey];simp[dR hk]
theorem rD.axJ(h:rD w b kk l)(ht:P.underlying t=some (.map k e))(hk:P.underlying k=some (.int kk)){z:Value}(hz:(zeroValue e).run P w=.ok z w)(x:Int)(ok:Bool):
  (Instr.lookup t (.map (some b)) (.int kk x) ok).run P w=.ok (if ok then .tuple #[(look l x).getD z,.bool (look l x).isSome]else(look l x).getD z) w:=by
 obtain⟨es,clock,hb,hl⟩:=h;obtain⟨r,hr,hc⟩:=RO x es.toList l 0 hl;have hf:=run_findKey (w:=w) hk x hr;have hck:=run_checkKey (P:=P) (w:=w) hk x es.isEmpty;rcases hc with⟨rfl,c2,_⟩|⟨j,v,rfl,c2,_⟩
 .cases ok<;>simp[Instr.lookup,dR ht,MapKept.run_getObj_map hb,Result.andThen,hck,hf,hz,c2]
 cases ok<;>simp[Instr.lookup,dR ht,MapKept.run_getObj_map hb,Result.andThen,hck,hf,c2]
theorem ahC:∀(l:List (Int×Value)) (j:Nat) (p:Int×Value) (x:Int) (v:Value),l[j]?=some p->p.1=x->(∀q∈l.take j,q.1≠x)->lQ l x v=l.set j (x,v)
 | [],_,_,_,_,h,_,_=>by simp at h
 |q::l,0,p,x,v,h,hp,_=>by
  simp at h;subst h;simp[lQ,hp]
 |q::l,j+1,p,x,v,h,hp,hn=>by
  have h1:q.1≠x:=hn q (by simp);rw[lQ,zq h1,ahC l j p x v (by simpa using h) hp (fun z hz=>hn z (by simp[hz]))];rfl
theorem agx:∀(l:List (Int×Value)) (x:Int) (v:Value),(∀q∈l,q.1≠x)->lQ l x v=l++ [(x,v)]
 | [],_,_,_=>rfl
 |q::l,x,v,h=>by
  rw[lQ,zq (h q (by simp)),agx l x v (fun z hz=>h z (by simp[hz]))];rfl
theorem rD.axn(h:rD w b kk l)(ht:P.underlying t=some (.map k e))(hk:P.underlying k=some (.int kk))(x:Int)(v:Value):
  ∃o,(Instr.mapUpdate t (.map (some b)) (.int kk x) v).run P w=.ok () (w.putObj b o)/\rD (w.putObj b o) b kk (lQ l x v):=by
 obtain⟨es,clock,hb,hl⟩:=h;obtain⟨r,hr,hc⟩:=RO x es.toList l 0 hl;have hf:=run_findKey (w:=w) hk x hr;have hck:=run_checkKey (P:=P) (w:=w) hk x false;have hlt:=(iX.1 hb).1;rcases hc with⟨rfl,c2,c3⟩|⟨j,u,rfl,c2,p,c3,c4,c5⟩
 .refine ⟨.map (es.push {key:=.int kk x,val:=v,born:=clock}) (clock+1),?_,⟨_,_,World.putObj_heap_same hlt,?_⟩⟩
  .simp[Instr.mapUpdate,dR ht,MapKept.run_getObj_map hb,MapKept.run_setObj_map _ hb,Result.andThen,hck,hf,World.putObj]
  .rw[agx l x v c3];simp[hl]
 have hj:j<es.size:=by
  have h1:=pX List.length hl;simp at h1;have:=(zy.1 c3).1;omega
 have hkey:(es[j]'hj).key=.int kk x:=by
  have h1:=pX (fun l=>l[j]?) hl;simp only[ow,c3,Array.getElem?_toList,Mf hj]at h1;simp at h1;rw[h1.1,c4]
 have hst:(Instr.keyThatStays (((es[j]?).map (·.key)).getD (.int kk x)) (.int kk x)).run P w=.ok (.int kk x) w:=by
  rw[Mf hj];simp[Instr.keyThatStays,hkey,Instr.sameBits]
 refine⟨.map (es.modify j fun e=> {e with key:=.int kk x,val:=v}) clock,?_,⟨_,_,World.putObj_heap_same hlt,?_⟩⟩
 .simp only[kD]at hf;simp[Instr.mapUpdate,dR ht,MapKept.run_getObj_map hb,MapKept.run_setObj_map _ hb,Result.andThen,hck,hf,hst,World.putObj]
 rw[ahC l j p x v c3 c4 c5];apply Ja;intro i;have h1:=pX (fun l=>l[i]?) hl;simp only[ow,Array.getElem?_toList]at h1;simp only[ow,Array.getElem?_toList,zn,Jc];by_cases hij:j=i
 .subst hij;have:=(zy.1 c3).1;simp[hj,this]
 simp only[hij,pY];exact h1
end
theorem qQ.find{R:Value->C->Prop}(x:Int):∀{l:List (Int×Value)} {cs:List C},qQ R l cs->(look l x=none/\jD cs x=none)\/∃v d,look l x=some v/\jD cs x=some d/\R v d.tl.hd
 | [],[],_=> .inl ⟨rfl,rfl⟩
 | [],_::_,h=>h.elim
 |_::_,[],h=>h.elim
 |p::l,d::cs,⟨h1,h2,h3⟩=>by
  by_cases hx:p.1=x
  .refine .inr ⟨p.2,d,?_,?_,h2⟩
   .simp[look,hx]
   .unfold jD;rw[List.find?_cons];simp[h1,hx]
  have e1:look (p::l) x=look l x:=by simp[look,hx]
  have e2:jD (d::cs) x=jD cs x:=by
   have hb:(p.1==x)=false:=by simpa using hx
   unfold jD;rw[List.find?_cons];simp only[h1,hb]
  rw[e1,e2];exact qQ.find x h3
theorem qQ.put{R:Value->C->Prop}(x:Int){v:Value}{c:C}(hv:R v c):∀{l:List (Int×Value)} {cs:List C},qQ R l cs->qQ R (lQ l x v) (pQ cs x c)
 | [],[],_=>⟨rfl,hv,trivial⟩
 | [],_::_,h=>h.elim
 |_::_,[],h=>h.elim
 |p::l,d::cs,⟨h1,h2,h3⟩=>by
  unfold lQ pQ;rw[h1];by_cases hx:p.1=x
  .rw[aC hx,aC hx];exact⟨rfl,hv,h3⟩
  rw[zq hx,zq hx];exact⟨h1,h2,qQ.put x hv h3⟩
def NF(N:Nat->Prop)(hv:Nat->Value)(f:List Nat)(b:Nat):Prop:=N b\/∃r∈f,dI (hv r)=some b
theorem aAR(N:Nat->Prop)(hv:Nat->Value)(b:Nat):NF N hv [] b↔N b:=by simp[NF]
section
variable{P:Program}{w:World}{B:Nat->Prop}{N:Nat->Prop}{ρ:List C}{bs:List aL}{hv:Nat->Value}
theorem uw{pc:bq}(hp:bF ρ pc){r:Nat}{s:Sh}{e:E}(h:rowOf (bT bs) pc r=some (s,e)):∃p,eu bs r=some (s,e,p)/\bF ρ p:=by
 unfold rowOf bT at h;unfold eu;cases hb:bs[r]? with
 |none=>simp[hb]at h
 |some k=>
  obtain⟨lb,f,p⟩:=k;cases lb<;>simp[hb]at h;obtain⟨h1,rfl,rfl⟩:=h;exact⟨p,rfl,xK h1 hp⟩
theorem TK{pc:bq}(hp:bF ρ pc){r:Nat}{k:IntKind}{s:Sh}{e:E}(h:mapOf (bT bs) pc r=some (k,s,e)):∃p,Il bs r=some (k,s,e,p)/\bF ρ p:=by
 unfold mapOf bT at h;unfold Il;cases hb:bs[r]? with
 |none=>simp[hb]at h
 |some k=>
  obtain⟨lb,f,p⟩:=k;cases lb<;>simp[hb]at h;obtain⟨h1,rfl,rfl,rfl⟩:=h;exact⟨p,rfl,xK h1 hp⟩
theorem nH.row{r:Nat}{s:Sh}{e:E}{p:bq}(h:eu bs r=some (s,e,p))(hp:bF ρ p):nH bs ρ r:=by
 unfold eu at h;cases hb:bs[r]? with
 |none=>simp[hb]at h
 |some k=>
  obtain⟨lb,f,p'⟩:=k;cases lb<;>simp[hb]at h;obtain⟨rfl,rfl,rfl⟩:=h;exact⟨_,hb,rfl,hp⟩
theorem nH.map{r:Nat}{k:IntKind}{s:Sh}{e:E}{p:bq}(h:Il bs r=some (k,s,e,p))(hp:bF ρ p):nH bs ρ r:=by
 unfold Il at h;cases hb:bs[r]? with
 |none=>simp[hb]at h
 |some k=>
  obtain⟨lb,f,p'⟩:=k;cases lb<;>simp[hb]at h;obtain⟨rfl,rfl,rfl,rfl⟩:=h;exact⟨_,hb,rfl,hp⟩
structure rW (w:World) (B:Nat->Prop) (N:Nat->Prop) (ρ:List C) (bs:List aL) (hv:Nat->Value):Prop where
 row:∀r s e p,eu bs r=some (s,e,p)->bF ρ p->∃et xs,w.jL B et s.size (hv r) (e.eval ρ).toList.length xs/\cZ w N s xs (e.eval ρ).toList/\0<s.size
 map:∀r k s e p,Il bs r=some (k,s,e,p)->bF ρ p->∃g l,hv r=.map (some g)/\B g/\rD w g k l/\qQ (fun v d=>Rd w N s [v] d) l (e.eval ρ).toList
theorem vF{et:TypeId}{size:Nat}{v:Value}{n:Nat}{xs:List Value}(h:w.jL B et size v n xs):
  (v=.slice none 0 0/\n=0/\xs=[])\/∃g cap,v=.slice (some ⟨g,0,none⟩) n cap/\n<=cap/\cap<=maxLen/\g<w.heap.size/\B g/\pG w g 0 xs:=by
 obtain⟨h1,h2⟩:=h;rcases h2 with⟨h2,h3⟩|⟨g,cap,cur,h3,h4,h5,h6,h7,h8,h9⟩
 .subst h3;exact .inl ⟨h2,rfl,oC (by simpa using h1)⟩
 refine .inr ⟨g,cap,h3,h6,h7,(iX.1 h5).1,h4,fun j u hu=>?_⟩;rw[kD,cell_of_row w g j cur et (0,0) h5];rw[<-h9,sw]at hu;split at hu
 .simpa using hu
 cases hu
theorem ahB{f:List Nat}:∀b,N b->b<w.heap.size->w.heap[b]?=w.heap[b]?/\NF N hv f b:=fun _ h _=>⟨rfl,.inl h⟩
theorem UQ{et:TypeId}{s:Sh}{v:Value}{l:List C}{xs:List Value}(hown:w.jL B et s.size v l.length xs)(hr:cZ w N s xs l){N':Nat->Prop}
  (hN:∀b,N b->N' b) (hv:∀g,dI v=some g->N' g) {o m cap:Nat}{a:Option Addr}(hle:o+m<=l.length) (hm:m<=cap) (hc:cap<=maxLen)
  (ha:0<m->∃g,dI v=some g/\a=some ⟨g,o*s.size,none⟩) (c:C) (hcl:c.toList=(l.take (o+m)).drop o):Rd w N' (.sl s) [.slice a m cap] c:=by
 have hlen:c.toList.length=m:=by rw[hcl];simp;omega
 refine⟨a,cap,by rw[hlen],by rw[hlen];exact hm,hc,fun hne=>?_⟩;have hm0:0<m:=by rw[<-hlen];exact Mg.2 hne
 obtain⟨g,hg,rfl⟩:=ha hm0;rcases vF hown with⟨h1,_,_⟩|⟨g',cap',h1,_,_,hlt,_,hcell⟩
 .rw[h1]at hg;cases hg
 rw[h1]at hg;injection hg with hg;subst hg;refine⟨g',o*s.size,rfl,hv g' (by rw[h1];rfl),hlt,?_⟩;rw[hcl];have hr':cZ w N' s xs l:=hr.mono (aS _) fun b hb _=>⟨rfl,hN b hb⟩;refine wT.of_row ((hr'.take (o+m)).drop o) fun j u hu=>?_;rw[yK,sw]at hu;split at hu
 .have:=hcell _ u hu;simpa using this
 cases hu
theorem Si(ρ:List C)(e:E):(Py e).eval ρ=e.eval ρ:=by unfold Py;split<;>simp[E.eval]
theorem RQ(s:Sh)(e:E)(vs:List Value):Exact (.sl s) (Py e) vs:=by
 cases e<;>trivial
theorem AU(hrows:rW w B N ρ bs hv){pc:bq}(hp:bF ρ pc){x:SX}{s:Sh}{e:E}{f:List Nat}{v:Value}(h:lg (bT bs) pc x=some (s,e,f))(hx:dA w N ρ bs hv x v):
  dA w (NF N hv f) ρ bs hv (.jo s e) v:=by
 unfold lg at h;split at h
 .simp at h;obtain⟨rfl,rfl,rfl⟩:=h;exact hx.le (aS _) ahB (lU.refl _ _ _)
 .rename_i r n;split at h
  .rename_i s' e' hr;simp at h;obtain⟨rfl,rfl,rfl⟩:=h;obtain⟨p,h1,h2⟩:=uw hp hr;obtain⟨et,xs,h3,h4,_⟩:=hrows.row r _ _ p h1 h2;obtain⟨hkn,hx⟩:=hx;obtain⟨hx1,_⟩:=hx _ _ p h1 h2;subst hx1;have hlen:((e'.eval ρ).toList.take (0+(e'.eval ρ).toList.length)).drop 0=(e'.eval ρ).toList:=by simp
   rcases vF h3 with⟨h5,h6,_⟩|⟨g,cap,h5,h6,h7,_,_,_⟩
   .refine ⟨[hv r],?_,by simp[Sh.mk,Sh.isAgg],RQ _ _ _⟩;rw[h5,Si];have:=UQ (N':=NF N hv [r]) h3 h4 (fun b hb=> .inl hb) (fun g hg=> .inr ⟨r,by simp,hg⟩) (o:=0) (m:=(e'.eval ρ).toList.length) (cap:=0) (a:=none) (by omega) (by omega) (by simp) (fun hh=>by omega) (e'.eval ρ) hlen.symm;rwa[h6]at this
   .refine ⟨[hv r],?_,by simp[Sh.mk,Sh.isAgg],RQ _ _ _⟩;rw[Si];have:=UQ (N':=NF N hv [r]) h3 h4 (fun b hb=> .inl hb) (fun g hg=> .inr ⟨r,by simp,hg⟩) (o:=0) (m:=(e'.eval ρ).toList.length) (cap:=cap) (a:=some ⟨g,0,none⟩) (by omega) h6 h7
     (fun hh=>⟨g,by rw[h5];rfl,by simp⟩) (e'.eval ρ) hlen.symm
    rw[h5];exact this
  simp at h
 .rename_i r off n;split at h
  next s' e' hr=>simp at h;obtain⟨rfl,rfl,rfl⟩:=h;obtain⟨p,h1,h2⟩:=uw hp hr;obtain⟨et,xs,h3,h4,_⟩:=hrows.row r _ _ p h1 h2;obtain⟨hkn,hx⟩:=hx;obtain⟨o,m,ho,hm,hle,a,cap,rfl,hmc,hcm,ha⟩:=hx _ _ p h1 h2;refine⟨[.slice a m cap],?_,by simp[Sh.mk,Sh.isAgg],sS (by simp) (by simp) _⟩;refine UQ (N':=NF N hv [r]) h3 h4 (fun b hb=> .inl hb) (fun g hg=> .inr ⟨r,by simp,hg⟩) hle hmc hcm ha _ ?_;simp only[E.eval,sU,C.lF,C.toInt_int,ho,hm];congr 2
  simp at h
 .simp at h;obtain⟨rfl,rfl,rfl⟩:=h;exact⟨[_],rfl,hx,trivial⟩
 .rename_i r;split at h
  next k s' e' hr=>simp at h;obtain⟨rfl,rfl,rfl⟩:=h;obtain⟨p,h1,h2⟩:=TK hp hr;obtain⟨g,l,h3,h4,h5,h6⟩:=hrows.map r _ _ _ p h1 h2;obtain⟨hkn,hx⟩:=hx;subst hx;refine⟨[hv r],⟨g,l,by rw[h3],.inr ⟨r,by simp,by rw[h3];rfl⟩,h5.lt,h5,h6.imp fun _ _ h=>h.mono (aS _) ahB⟩,by simp[Sh.mk,Sh.isAgg],?_⟩;cases e'<;>trivial
  .simp at h
 simp at h
theorem aZ.rows{P:Program}{N0:Nat->Prop}{w0:Wb}{S:SS}{a:Act}(h:aZ P N0 w0 ρ S hv a w):rW w w0.own (NN N0 w0.own ρ S.jd hv) ρ S.jd hv:=by
 refine⟨fun r s e p hr hp=>?_,fun r k s e p hr hp=>?_⟩
 .unfold eu at hr;cases hb:S.jd[r]? with
  |none=>simp[hb]at hr
  |some k=>
   obtain⟨lb,f,p'⟩:=k;cases lb<;>simp[hb]at hr;obtain⟨rfl,rfl,rfl⟩:=hr;exact h.jd r _ hb hp
 unfold Il at hr;cases hb:S.jd[r]? with
 |none=>simp[hb]at hr
 |some k=>
  obtain⟨lb,f,p'⟩:=k;cases lb<;>simp[hb]at hr;obtain⟨rfl,rfl,rfl,rfl⟩:=hr;exact h.jd r _ hb hp
theorem aZ.nf{P:Program}{N0:Nat->Prop}{w0:Wb}{S:SS}{a:Act}(h:aZ P N0 w0 ρ S hv a w){f:List Nat}{b:Nat}(hb:NF (NN N0 w0.own ρ S.jd hv) hv f b)
  (hf:∀r∈f,nH S.jd ρ r):NN N0 w0.own ρ (bP (f.map .bM) S.jd) hv b:=by
 rcases hb with hb|⟨r,hr,hg⟩
 .exact UC f hb
 obtain ⟨k,hbk,hlk,h2⟩:=hf r hr
 .refine ⟨.inr (h.lt hbk hlk h2 hg).2,fun r' k' hk' hl hfz hp=>?_⟩;by_cases hrr:r'=r
  .subst hrr;rw[agN f hr hk']at hfz;cases hfz
  have hle:=UA ρ hv f S.jd;have:∃k0,S.jd[r']?=some k0/\k0.lb=k'.lb/\k0.dO=k'.dO:=by
   clear hl hfz hp hle hg hr;revert hk';generalize S.jd=bs;induction f generalizing bs with
   |nil=>intro hk';exact⟨k',hk',rfl,rfl⟩
   |cons q f ih=>
    intro hk';obtain⟨k0,e1,e2,e3⟩:=ih (fun r hr=>by simp_all) _ hk';obtain⟨k1,e4,e5,e6,_⟩:=KT (r:=q) e1;exact⟨k1,e4,by rw[<-e5,e2],by rw[<-e6,e3]⟩
  obtain⟨k0,e1,e2,e3⟩:=this;exact h.dist r r' _ k0 b hbk e1 (fun e=>hrr e.symm) hlk (by rw[NW e2];exact hl) h2 (by rw[e3];exact hp) hg
end
def C.eG:C->Nat->C
 |c,0=>c.hd
 |c,j+1=>c.tl.eG j
theorem C.axY{c c':C}(h:c.toList=c'.toList):∀j,c.eG j=c'.eG j
 |0=>by simp[C.eG,C.hd,h]
 |j+1=>by simp[C.eG,C.tl,h]
theorem Ny(ρ:List C)(e:E):(Ab e).eval ρ=(e.eval ρ).hd:=by
 unfold Ab;split<;>simp[E.eval,C.hd]
theorem Nw(ρ:List C)(e:E):((Aa e).eval ρ).toList=(e.eval ρ).tl.toList:=by
 unfold Aa;split<;>simp[E.eval,C.tl]
theorem Nz(ρ:List C):∀(j:Nat) (e:E),(FW e j).eval ρ=(e.eval ρ).eG j
 |0,e=>Ny ρ e
 |j+1,e=>by
  rw[FW,Nz ρ j,C.eG];exact C.axY (Nw ρ e) j
section
variable{P:Program}{w:World}{B:Nat->Prop}{N:Nat->Prop}{ρ:List C}{bs:List aL}{hv:Nat->Value}
theorem Od{a b:Sh}{e:E}{va vb:List Value}(h:Exact (.jc a b) e (va++vb))(hl:va.length=a.size):Exact a (Ab e) va/\Exact b (Aa e) vb:=by
 by_cases hc:∃x y,e=.cons x y
 .obtain ⟨x,y,rfl⟩:=hc;obtain⟨ua,ub,h1,h2,h3,h4⟩:=h;obtain⟨rfl,rfl⟩:=List.append_inj h1 (by rw[hl,h2]);exact⟨h3,h4⟩
 have h1:Ab e=.hd e:=by cases e<;>first|rfl|exact absurd ⟨_,_,rfl⟩ hc
 have h2:Aa e=.tl e:=by cases e<;>first|rfl|exact absurd ⟨_,_,rfl⟩ hc
 rw[h1,h2];exact⟨sS (by simp) (by simp) _,sS (by simp) (by simp) _⟩
theorem KX:∀{s:Sh}{j:Nat}{vs:List Value}{c:C}{s':Sh}{off:Nat},Rd w N s vs c->s.eG j=some (s',off)->
  Rd w N s' ((vs.drop off).take s'.size) (c.eG j)/\off+s'.size<=vs.length/\∀e,Exact s e vs->Exact s' (FW e j) ((vs.drop off).take s'.size)
 | .jc a b,0,vs,c,s',off,h,hf=>by
  simp[Sh.eG]at hf;obtain⟨rfl,rfl⟩:=hf;obtain⟨h0,va,vb,rfl,h1,h2⟩:=h;have e1:List.take a.size (List.drop 0 (va++vb))=va:=by simp[<-h1.length]
  rw[e1];refine⟨h1,by simp[h1.length],fun e he=>(Od he h1.length).1⟩
 | .jc a b,j+1,vs,c,s',off,h,hf=>by
  simp[Sh.eG]at hf;obtain⟨s1,o',hf,rfl,rfl⟩:=hf;obtain⟨h0,va,vb,rfl,h1,h2⟩:=h;obtain⟨h3,h4,h5⟩:=KX h2 hf;have e1:List.drop (a.size+o') (va++vb)=List.drop o' vb:=by rw[<-h1.length,F5];simp
  rw[e1];exact⟨h3,by simp[h1.length];omega,fun e he=>h5 _ (Od he h1.length).2⟩
 | .int _,_,_,_,_,_,_,hf| .bool,_,_,_,_,_,_,hf| .str,_,_,_,_,_,_,hf| .sl _,_,_,_,_,_,_,hf| .je,_,_,_,_,_,_,hf| .dB _ _,_,_,_,_,_,_,hf| .kP,_,_,_,_,_,_,hf| .fH _,_,_,_,_,_,_,hf| .mp _ _,_,_,_,_,_,_,hf=>by simp[Sh.eG]at hf
theorem GK{t:TypeId}{s:Sh}(h:kL P t s=true):∃i d,P.info? t=some i/\i.size=s.size/\P.underlying t=some d/\Va P t=s.isAgg:=by
 simp only[kL,bB,beq_iff_eq]at h;obtain⟨⟨⟨h1,h2⟩,h3⟩,h4⟩:=h;obtain⟨i,hi⟩:=o9.1 h1;obtain⟨d,hd⟩:=o9.1 h2;exact⟨i,d,hi,by simpa[Program.cellsOf,hi]using h3,hd,h4⟩
theorem afh{t:TypeId}{s:Sh}(h:kL P t s=true):(isAgg t).run P w=.ok s.isAgg w:=by
 obtain⟨i,d,hi,_,hd,ha⟩:=GK h;rw[<-ha];unfold isAgg Va;simp only[hd,iB,dR hd,sG];cases d<;>simp
theorem run_sizeOf{t:TypeId}{s:Sh}(h:kL P t s=true):(sizeOf t).run P w=.ok s.size w:=by
 obtain⟨i,d,hi,hs,_,_⟩:=GK h;simp[sizeOf,typeInfo,hi,hs]
theorem TB{t:TypeId}{s:Sh}(h:kL P t s=true){cs:List Value}{off:Nat}{us:List Value}(hu:(cs.drop off).take s.size=us)(hl:us.length=s.size):
  (part t cs.toArray off).run P w=.ok (s.mk us) w:=by
 unfold part;simp only[iB,afh h,sG];by_cases ha:s.isAgg=true
 .simp[ha,run_sizeOf h,Sh.mk,<-hu,List.extract_eq_take_drop]
 have ha:s.isAgg=false:=by simpa using ha
 have hs:s.size=1:=by cases s<;>simp_all[Sh.isAgg,Sh.size]
 rw[hs]at hu hl;match us,hl with
 | [u],_=>
  have:cs[off]?=some u:=by
   have h0:(List.take 1 (List.drop off cs))[0]?=some u:=by rw[hu];rfl
   simpa using h0
  simp[ha,this,Sh.mk]
theorem addr_add(b off n:Nat):(⟨b,off,none⟩:Addr).add n=⟨b,off+n,none⟩:=by
 unfold Addr.add;split<;>simp_all
theorem JM{t:TypeId}{s:Sh}(h:kL P t s=true){b off:Nat}{us:List Value}(hc:pG w b off us)(hl:us.length=s.size):
  (loadVar t ⟨b,off,none⟩).run P w=.ok (s.mk us) w:=by
 unfold loadVar;simp only[iB,afh h,sG];by_cases ha:s.isAgg=true
 .have hld:=run_loadCells_list (P:=P) w ⟨b,off,none⟩ us (fun j v hv=>by rw[addr_add];exact hc j v hv);simp[ha,run_sizeOf h,<-hl,hld,Sh.mk]
 have ha:s.isAgg=false:=by simpa using ha
 have hs:s.size=1:=by cases s<;>simp_all[Sh.isAgg,Sh.size]
 rw[hs]at hl;match us,hl with
 | [u],_=>
  have h1:=hc 0 u rfl;rw[qE]at h1;simp[ha,h1,Sh.mk]
theorem asN{t:TypeId}{j:Nat}{x:Option SX}{out:Out}{v:Value}(h:KU P t j x=some out)(hx:∀y,x=some y->dA w N ρ bs hv y v):
  out.jq=[]/\out.nv=0/\out.ji=[]/\o7 P w N ρ bs hv (Instr.field t v j) out.x:=by
 unfold KU at h;split at h
 .rename_i s e fs hu;split at h
  .rename_i s' off f hf hfs;split at h
   .rename_i hok;injection h with h;subst h;simp only[EO,bB,dQ]at hok;obtain⟨vs,h1,h2,h3⟩:=hx _ rfl;have hag:s.isAgg=true:=by cases s<;>simp_all[Sh.eG,Sh.isAgg]
    obtain⟨h4,h5,h6⟩:=KX h1 hf;have hv:v=.agg vs.toArray:=by rw[h2];simp[Sh.mk,hag]
    subst hv;refine⟨rfl,rfl,rfl,s'.mk ((vs.drop off).take s'.size),?_,_,?_,rfl,h6 e h3⟩
    .have hp:=TB (P:=P) (w:=w) hok.2 (cs:=vs) (off:=off) rfl h4.length;simp[Instr.field,dR hu,hfs,asAgg,hok.1,hp]
    .rw[Nz];exact h4
   simp at h
  .simp at h
 simp at h
theorem E5{r:Nat}{lb:LB}{p:bq}(h:bT bs r=some ⟨lb,p⟩):∃f,bs[r]?=some ⟨lb,f,p⟩:=by
 unfold bT at h;cases hb:bs[r]? with
 |none=>simp[hb]at h
 |some k=>obtain⟨lb',f,p'⟩:=k;simp[hb]at h;obtain⟨rfl,rfl⟩:=h;exact⟨f,rfl⟩
def aiC(w:World)(B:Nat->Prop)(N:Nat->Prop)(ρ:List C)(bs:List aL)(hv:Nat->Value):Prop:=
 ∀r cs p,gZ bs r=some (cs,p)->bF ρ p->∃g bt arr,hv r=.pointer (some ⟨g,0,none⟩)/\B g/\w.heap[g]?=some (.cells arr bt (0,0))/\gV w N ρ bs hv cs arr.toList
theorem aZ.boxes{P:Program}{N0:Nat->Prop}{w0:Wb}{S:SS}{a:Act}(h:aZ P N0 w0 ρ S hv a w):aiC w w0.own (NN N0 w0.own ρ S.jd hv) ρ S.jd hv:=by
 intro r cs p hr hp;unfold gZ at hr;cases hb:S.jd[r]? with
 |none=>simp[hb]at hr
 |some k=>
  obtain⟨lb,f,p'⟩:=k;cases lb<;>simp[hb]at hr;obtain⟨rfl,rfl⟩:=hr;exact h.jd r _ hb hp
theorem ahc:∀{cs:List SX}{vs:List Value}{j:Nat}{x:SX},gV w N ρ bs hv cs vs->cs[j]?=some x->∃v,vs[j]?=some v/\dA w N ρ bs hv x v
 | [],_,_,_,_,hj=>by simp at hj
 |_::_,_,0,_,⟨v,r,h1,h2,_⟩,hj=>by
  simp at hj;subst hj h1;exact⟨v,rfl,h2⟩
 |_::l,_,j+1,_,⟨v,r,h1,_,h3⟩,hj=>by
  subst h1;have:=ahc (j:=j) h3 (by simpa using hj);simpa using this
theorem ND:∀{cs:List SX}{vs:List Value}(j:Nat),gV w N ρ bs hv cs vs->gV w N ρ bs hv (cs.drop j) (vs.drop j)
 | [],_,j,h=>by simp only[gV]at h;subst h;simp[gV]
 |_::_,_,0,h=>by simpa using h
 |_::_,_,j+1,⟨v,r,h1,_,h3⟩=>by
  subst h1;simpa using ND j h3
theorem ad5:∀{cs:List SX}{vs:List Value},gV w N ρ bs hv cs vs->vs.length=cs.length
 | [],_,h=>by simp only[gV]at h;subst h;rfl
 |_::_,_,⟨v,r,h1,_,h3⟩=>by subst h1;simp[ad5 h3]
theorem OM{f g:List Nat}{b:Nat}(h:NF N hv f b):NF N hv (f++g) b:=by
 rcases h with h|⟨r,hr,hg⟩
 .exact .inl h
 exact .inr ⟨r,by simp[hr],hg⟩
theorem Oc{f g:List Nat}{b:Nat}(h:NF N hv g b):NF N hv (f++g) b:=by
 rcases h with h|⟨r,hr,hg⟩
 .exact .inl h
 exact .inr ⟨r,by simp[hr],hg⟩
theorem ar1(hrows:rW w B N ρ bs hv){pc:bq}(hp:bF ρ pc):∀{s:Sh}{cs:List SX}{vs:List Value}{e:E}{f:List Nat}{r:List SX},fT (bT bs) pc s cs=some (e,f,r)->gV w N ρ bs hv cs vs->
  ∃us vr,vs=us++vr/\Rd w (NF N hv f) s us (e.eval ρ)/\Exact s e us/\gV w N ρ bs hv r vr:=by
 have leaf:∀{s:Sh}{cs:List SX}{vs:List Value}{e:E}{f:List Nat}{r:List SX},s.isAgg=false->uK (bT bs) pc s cs=some (e,f,r)->gV w N ρ bs hv cs vs->∃us vr,vs=us++vr/\Rd w (NF N hv f) s us (e.eval ρ)/\Exact s e us/\gV w N ρ bs hv r vr:=by
  intro s cs vs e f r hs h hx;cases cs with
  |nil=>simp[uK]at h
  |cons x l=>
   obtain⟨v,vr,rfl,h1,h2⟩:=hx;simp only[uK]at h;split at h
   .rename_i s' e' f' hd;split at h
    .rename_i hss;subst hss;simp at h;obtain⟨rfl,rfl,rfl⟩:=h;obtain⟨us,h3,h4,h5⟩:=AU hrows hp hd h1;have hl:us.length=1:=by rw[h3.length];cases s<;>simp_all[Sh.isAgg,Sh.size]
     match us,hl with
     | [u],_=>
      simp[Sh.mk,hs]at h4;subst h4;exact⟨[v],vr,rfl,h3,h5,h2⟩
    simp at h
   .simp at h
 intro s;induction s with
 |int k=>intro cs vs e f r h;exact leaf rfl (by simpa[fT]using h)
 |bool=>intro cs vs e f r h;exact leaf rfl (by simpa[fT]using h)
 |str=>intro cs vs e f r h;exact leaf rfl (by simpa[fT]using h)
 |sl s _=>intro cs vs e f r h;exact leaf rfl (by simpa[fT]using h)
 |dB t s _=>intro cs vs e f r h;exact leaf rfl (by simpa[fT]using h)
 |kP=>intro cs vs e f r h;exact leaf rfl (by simpa[fT]using h)
 |fH g=>intro cs vs e f r h;exact leaf rfl (by simpa[fT]using h)
 |mp k s _=>intro cs vs e f r h;exact leaf rfl (by simpa[fT]using h)
 |je=>
  intro cs vs e f r h hx;simp[fT]at h;obtain⟨rfl,rfl,rfl⟩:=h;exact⟨[],vs,rfl,rfl,by simp[Exact],hx⟩
 |jc a b iha ihb=>
  intro cs vs e f r h hx;simp only[fT]at h;split at h
  .rename_i hb;split at h
   .rename_i x f1 r1 h1;split at h
    .rename_i y f2 r2 h2;simp at h;obtain⟨rfl,rfl,rfl⟩:=h;obtain⟨u1,v1,e1,g1,x1,hx1⟩:=iha h1 hx;obtain⟨u2,v2,e2,g2,x2,hx2⟩:=ihb h2 hx1;have m1:∀b,NF N hv f1 b->b<w.heap.size->w.heap[b]?=w.heap[b]?/\NF N hv (f1++f2) b:=fun b hb _=>⟨rfl,OM hb⟩;have m2:∀b,NF N hv f2 b->b<w.heap.size->w.heap[b]?=w.heap[b]?/\NF N hv (f1++f2) b:=fun b hb _=>⟨rfl,Oc hb⟩;refine⟨u1++u2,v2,by rw[e1,e2,gJ],⟨hb,u1,u2,rfl,?_,?_⟩,⟨u1,u2,rfl,g1.length,x1,x2⟩,hx2⟩
     .simpa [E.eval,C.hd]using g1.mono (aS _) m1
     .exact (g2.mono (aS _) m2).zG hb (by simp[E.eval,C.tl])
    simp at h
   .simp at h
  simp at h
theorem EA{pc:bq}(hp:bF ρ pc){x:SX}{s:Sh}{e:E}{f:List Nat}(h:lg (bT bs) pc x=some (s,e,f)):∀q∈f,nH bs ρ q:=by
 intro q hq;unfold lg at h;split at h
 .simp at h;obtain⟨_,_,rfl⟩:=h;cases hq
 .split at h
  next hr=>simp at h;obtain⟨_,_,rfl⟩:=h;simp at hq;subst hq;obtain⟨p,h1,h2⟩:=uw hp hr;exact nH.row h1 h2
  simp at h
 .split at h
  next hr=>simp at h;obtain⟨_,_,rfl⟩:=h;simp at hq;subst hq;obtain⟨p,h1,h2⟩:=uw hp hr;exact nH.row h1 h2
  simp at h
 .simp at h;obtain⟨_,_,rfl⟩:=h;cases hq
 .split at h
  next hr=>simp at h;obtain⟨_,_,rfl⟩:=h;simp at hq;subst hq;obtain⟨p,h1,h2⟩:=TK hp hr;exact nH.map h1 h2
  .simp at h
 simp at h
theorem as6{pc:bq}(hp:bF ρ pc):∀{s:Sh}{cs:List SX}{e:E}{f:List Nat}{r:List SX},fT (bT bs) pc s cs=some (e,f,r)->∀q∈f,nH bs ρ q:=by
 have jo:∀{x:SX}{s:Sh}{e:E}{f:List Nat},lg (bT bs) pc x=some (s,e,f)->∀q∈f,nH bs ρ q:=fun h=>EA hp h;have leaf:∀{s:Sh}{cs:List SX}{e:E}{f:List Nat}{r:List SX},uK (bT bs) pc s cs=some (e,f,r)->∀q∈f,nH bs ρ q:=by
  intro s cs e f r h;cases cs with
  |nil=>simp[uK]at h
  |cons x l=>
   simp only[uK]at h;split at h
   .rename_i hd;split at h
    .simp at h;obtain⟨_,rfl,_⟩:=h;exact jo hd
    simp at h
   .simp at h
 intro s;induction s with
 |int k=>intro cs e f r h;exact leaf (s:=.int k) (by simpa[fT]using h)
 |bool=>intro cs e f r h;exact leaf (s:=.bool) (by simpa[fT]using h)
 |str=>intro cs e f r h;exact leaf (s:=.str) (by simpa[fT]using h)
 |sl s _=>intro cs e f r h;exact leaf (s:=.sl s) (by simpa[fT]using h)
 |dB t s _=>intro cs e f r h;exact leaf (s:=.dB t s) (by simpa[fT]using h)
 |kP=>intro cs e f r h;exact leaf (s:=.kP) (by simpa[fT]using h)
 |fH g=>intro cs e f r h;exact leaf (s:=.fH g) (by simpa[fT]using h)
 |mp k s _=>intro cs e f r h;exact leaf (s:=.mp k s) (by simpa[fT]using h)
 |je=>
  intro cs e f r h q hq;simp[fT]at h;obtain⟨_,rfl,_⟩:=h;cases hq
 |jc a b iha ihb=>
  intro cs e f r h q hq;simp only[fT]at h;split at h
  .split at h
   .rename_i x f1 r1 h1;split at h
    .rename_i y f2 r2 h2;simp at h;obtain⟨_,rfl,_⟩:=h;rcases zx.1 hq with hq|hq
     .exact iha h1 q hq
     .exact ihb h2 q hq
    simp at h
   .simp at h
  simp at h
theorem RN(hrows:rW w B N ρ bs hv)(aAB:aiC w B N ρ bs hv){pc:bq}(hp:bF ρ pc){t:TypeId}{x:Option SX}{out:Out}{v:Value}
  (h:BF P (bT bs) pc t x=some out) (hx:∀y,x=some y->dA w N ρ bs hv y v):
  ∃f,out.jq=f.map .bM/\(∀q∈f,nH bs ρ q)/\out.nv=0/\out.ji=[]/\∃u,(Instr.loadAt t v).run P w=.ok u w/\dA w (NF N hv f) ρ bs hv out.x u:=by
 have m0:∀b,N b->b<w.heap.size->w.heap[b]?=w.heap[b]?/\NF N hv [] b:=fun b hb _=>⟨rfl,.inl hb⟩;unfold BF at h;split at h
 .rename_i s e;split at h
  next hf=>injection h with h;subst h;obtain⟨b,off,us,rfl,h2,h3,h4,h5,h6⟩:=hx _ rfl;refine⟨[],rfl,by simp,rfl,rfl,s.mk us,by simp[Instr.loadAt,Instr.sureAddr,JM hf h4 h5.length],us,h5.mono (aS _) m0,rfl,h6⟩
  simp at h
 .rename_i r i fo s eG;obtain⟨hkn,hrow,tZ⟩:=hx _ rfl;split at h
  .rename_i hf;split at h
   .rename_i es e p hrb;obtain⟨fz,hb⟩:=E5 hrb;split at h
    .rename_i hsub;have hpp:=xK hsub hp;have hin:eu bs r=some (es,e,p):=by simp[eu,hb]
     obtain⟨o,g,ho,hlt,hg,rfl,LU⟩:=hrow es e p hin hpp;obtain⟨et,xs,hown,hrd,hsz⟩:=hrows.row r es e p hin hpp;obtain⟨c,hc⟩:∃c,(e.eval ρ).toList[o]?=some c:=⟨_,nL hlt⟩;have hat:=hrd.at_ hc;have hcell:pG w g 0 xs:=by
      rcases vF hown with⟨h1,_,_⟩|⟨g',cap',h1,_,_,_,_,hcell⟩
      .rw[h1]at hg;cases hg
      .rw[h1]at hg;injection hg with hg;subst hg;exact hcell
     have akN:((E.idx e i).eval ρ)=c:=by simp[E.eval,ho,List.getD,hc]
     split at h
     .obtain ⟨rfl,rfl⟩:=LU;simp at h;subst h;have hc2:pG w g (o*s.size+0) ((xs.drop (o*s.size)).take s.size):=fun j u hu=>by
       rw[sw]at hu;split at hu
       .rw[yK]at hu;have:=hcell _ u hu;simpa[su]using this
       .cases hu
      refine⟨[],rfl,by simp,rfl,rfl,s.mk ((xs.drop (o*s.size)).take s.size),by simpa[Instr.loadAt,Instr.sureAddr]using JM (P:=P) hf hc2 hat.length,_,?_,rfl,sS (by simp) (by simp) _⟩;rw[akN];exact hat.mono (aS _) m0
     .rename_i j;split at h
      .rename_i hj;simp at h;subst h;obtain⟨h4,h5,h6⟩:=KX hat hj;have hc2:pG w g (o*es.size+fo) ((((xs.drop (o*es.size)).take es.size).drop fo).take s.size):=fun j u hu=>by
        rw[sw]at hu;split at hu
        .rw[yK,sw]at hu;split at hu
         .rw[yK]at hu;have:=hcell _ u hu;simpa[su]using this
         cases hu
        .cases hu
       refine⟨[],rfl,by simp,rfl,rfl,_,by simp[Instr.loadAt,Instr.sureAddr,JM hf hc2 h4.length],_,?_,rfl,h6 _ (sS (by simp) (by simp) _)⟩;rw[Nz,akN];exact h4.mono (aS _) m0
      next hne=>exact absurd LU hne
    simp at h
   .rename_i cs p hrb;obtain⟨fz,hb⟩:=E5 hrb;split at h
    .rename_i hsub;have hpp:=xK hsub hp;have hin:gZ bs r=some (cs,p):=by simp[gZ,hb]
     obtain⟨g,hg,rfl⟩:=tZ cs p hin hpp;obtain⟨g',bt,arr,h1,h2,h3,h4⟩:=aAB r cs p hin hpp;rw[h1]at hg;injection hg with hg;subst hg;split at h
     .rename_i hag;split at h
      .rename_i e f rr hu;simp at h;subst h;obtain⟨us,vr,e1,g1,x1,_⟩:=ar1 hrows hp hu (ND fo h4);have hc2:pG w g' fo us:=fun j u hu=>by
        rw[cell_of_row w g' _ arr bt (0,0) h3];have:(us++vr)[j]?=some u:=by rw[xw (zy.1 hu).1];exact hu
        rw[<-e1,yK]at this;simpa using this
       exact⟨f,rfl,as6 hp hu,rfl,rfl,_,by simp[Instr.loadAt,Instr.sureAddr,JM hf hc2 g1.length],us,g1,rfl,x1⟩
      simp at h
     .rename_i hag;have hag:s.isAgg=false:=by simpa using hag
      split at h
      .rename_i x hx;simp at h;subst h;obtain⟨v,hv1,hv2⟩:=ahc h4 hx;have hc2:pG w g' fo [v]:=fun j u hu=>by
        rw[cell_of_row w g' _ arr bt (0,0) h3];cases j with
        |zero=>simp at hu;subst hu;simpa using hv1
        |succ j=>simp at hu
       have hs1:s.size=1:=by cases s<;>simp_all[Sh.isAgg,Sh.size]
       refine⟨[],rfl,by simp,rfl,rfl,v,?_,hv2.le (aS _) m0 (lU.refl _ _ _)⟩;have hr:=JM (P:=P) hf hc2 (by simp[hs1]);simp only[Sh.mk,hag]at hr;simpa[Instr.loadAt,Instr.sureAddr]using hr
      simp at h
    .simp at h
   simp at h
  .simp at h
 simp at h
theorem SI{st:TypeId}{fs:Array Field}{f:Field}{j:Nat}{s:Sh}{off b o:Nat}(hu:P.underlying st=some (.struct fs))(hf:fs[j]?=some f)(hok:OB P f s off=true):
  (Instr.fieldAt st (.pointer (some ⟨b,o,none⟩)) j).run P w=.ok (.pointer (some ⟨b,o+off,none⟩)) w:=by
 simp only[OB,bB,dQ,bne_iff_ne]at hok;obtain⟨⟨⟨h1,h2⟩,h3⟩,h4⟩:=hok;obtain⟨i,hi⟩:=o9.1 h3;have hs:i.size=s.size:=by simpa[Program.cellsOf,hi]using h4
 have hne:i.size≠0:=by rw[hs];exact h2
 simp[Instr.fieldAt,dR hu,hf,Instr.sureAddr,fieldPlace,sizeOf,typeInfo,hi,hne,addr_add,h1]
theorem asO{st:TypeId}{j:Nat}{x:Option SX}{out:Out}{v:Value}{pc:bq}(hp:bF ρ pc)(h:H6 P (bT bs) pc st j x=some out)(hx:∀y,x=some y->dA w N ρ bs hv y v):
  out.jq=[]/\out.nv=0/\out.ji=[]/\o7 P w N ρ bs hv (Instr.fieldAt st v j) out.x:=by
 unfold H6 at h;split at h
 .rename_i r i fo s fs hu;obtain⟨hkn,hrow,tZ⟩:=hx _ rfl;split at h
  .rename_i s' off f hf hfs;split at h
   .rename_i hok;simp only[bB]at hok;obtain⟨hok,hlv⟩:=hok;split at h
    .rename_i es e p hrb;obtain⟨fz,hb⟩:=E5 hrb;split at h
     .rename_i hfo;subst hfo;simp at h;subst h;have hpp:bF ρ p:=xK (by simpa[rA,hrb]using hlv) hp;have hin:eu bs r=some (es,e,p):=by simp[eu,hb]
      obtain⟨o,g,ho,hlt,hg,rfl,_,rfl⟩:=hrow es e p hin hpp;refine⟨rfl,rfl,rfl,_,SI hu hfs hok,hkn,fun es' e' p' hin' _=>?_,fun cs p' hin' _=>?_⟩
      .rw[hin]at hin';simp at hin';obtain⟨rfl,rfl,rfl⟩:=hin';exact⟨o,g,ho,hlt,hg,by simp,hf⟩
      .simp[gZ,hb]at hin'
     simp at h
    .rename_i cs p hrb;obtain⟨fz,hb⟩:=E5 hrb;simp at h;subst h;have hpp:bF ρ p:=xK (by simpa[rA,hrb]using hlv) hp;have hin:gZ bs r=some (cs,p):=by simp[gZ,hb]
     obtain⟨g,hg,rfl⟩:=tZ cs p hin hpp;refine⟨rfl,rfl,rfl,_,SI hu hfs hok,hkn,fun es' e' p' hin' _=>?_,fun cs p' hin' _=>⟨g,hg,rfl⟩⟩;simp[eu,hb]at hin'
    simp at h
   .simp at h
  simp at h
 .rename_i s e fs hu;split at h
  .rename_i s' off f hf hfs;split at h
   .rename_i hok;simp at h;subst h;obtain⟨b,o,us,rfl,h2,h3,h4,h5,h6⟩:=hx _ rfl;obtain⟨g1,g2,g3⟩:=KX h5 hf;refine⟨rfl,rfl,rfl,_,SI hu hfs hok,b,o+off,_,rfl,h2,h3,fun k u hk=>?_,by rw[Nz];exact g1,g3 e h6⟩;rw[sw]at hk;split at hk
    .rw[yK]at hk;have:=h4 _ u hk;simpa[su]using this
    .cases hk
   simp at h
  .simp at h
 simp at h
theorem avc(hrows:rW w B N ρ bs hv){pc:bq}(hp:bF ρ pc){x:Option SX}{out:Out}{v:Value}(h:IG (bT bs) pc x=some out)(hx:∀y,x=some y->dA w N ρ bs hv y v):
  out.jq=[]/\out.nv=0/\out.ji=[]/\dA w N ρ bs hv out.x v/\((∃a,v=.pointer (some a))\/∃f,v=.func (.func f) #[] #[]):=by
 unfold IG at h;split at h
 .rename_i r i fo s eG;split at h
  .rename_i hlv;simp at h;subst h;have gq:=hx _ rfl;refine⟨rfl,rfl,rfl,gq,.inl ?_⟩;obtain⟨hkn,h1,h2⟩:=gq;unfold rA at hlv;split at hlv
   next es e p hrb=>obtain⟨fz,hb⟩:=E5 hrb;obtain⟨o,g,_,_,_,h3,_⟩:=h1 es e p (by simp[eu,hb]) (xK hlv hp);exact⟨_,h3⟩
   next cs p hrb=>obtain⟨fz,hb⟩:=E5 hrb;obtain⟨g,_,h3⟩:=h2 cs p (by simp[gZ,hb]) (xK hlv hp);exact⟨_,h3⟩
   .cases hlv
  simp at h
 .simp at h;subst h;have gq:=hx _ rfl;refine⟨rfl,rfl,rfl,gq,.inl ?_⟩;obtain⟨b,off,us,h1,_⟩:=gq;exact⟨_,h1⟩
 .simp at h;subst h;have gq:=hx _ rfl;exact⟨rfl,rfl,rfl,gq,.inr ⟨_,gq⟩⟩
 simp at h
theorem AY{t et:TypeId}(h:rY P t=some et):P.underlying t=some (.slice et):=by
 unfold rY at h;split at h<;>simp_all
theorem RS{et:TypeId}{s:Sh}(h:wK P et s=true):(sizeOf et).run P w=.ok s.size w:=by
 simp only[wK,bB,dQ]at h;obtain⟨i,hi⟩:=o9.1 h.1;have:i.size=s.size:=by simpa[Program.cellsOf,hi]using h.2
 simp[sizeOf,typeInfo,hi,this]
theorem GU(ρ:List C):∀(e:E),(r9 e).eval ρ=.int ((e.eval ρ).toList.length):=by
 intro e;induction e with
 |cons h t _ ih=>
  simp only[r9];split
  next n hn=>rw[hn]at ih;simp[E.eval]at ih |-;omega
  simp[E.eval]
 |_=>simp[r9,E.eval]
theorem SG{t et:TypeId}{s:Sh}(ht:P.underlying t=some (.slice et))(hok:wK P et s=true){b off len cap o:Nat}{k:IntKind}(h:o<len):
  (Instr.indexAt t (.slice (some ⟨b,off,none⟩) len cap) (.int k (o:Int))).run P w=.ok (.pointer (some ⟨b,off+o*s.size,none⟩)) w:=by
 simp[Instr.indexAt,asIntOf,dR ht,RS hok,addr_add,h]
theorem MK{pc:bq}(hp:bF ρ pc){i n:E}{nv:Nat}(h:fG P ρ nv (G5 pc i n)):∃o:Nat,(i.eval ρ).toInt=(o:Int)/\(o:Int)<(n.eval ρ).toInt:=by
 unfold G5 at h;obtain⟨h1,h2⟩:=Kk hp h;have h3:=Da hp h2;simp[E.eval,mY]at h1 h3;exact⟨(i.eval ρ).toInt.toNat,by omega,by omega⟩
theorem arL(hrows:rW w B N ρ bs hv){pc:bq}(hp:bF ρ pc){t:TypeId}{x:Option SX}{ki:IntKind}{i:Option (IntKind×E)}{out:Out}{v vi:Value}{nv:Nat}
  (h:Bo P (bT bs) pc t x i=some out) (hx:∀y,x=some y->dA w N ρ bs hv y v) (hi:∀k e,i=some (k,e)->vi=.int k (e.eval ρ).toInt) (ho:fG P ρ nv out.ji):
  out.jq=[]/\out.nv=0/\o7 P w N ρ bs hv (Instr.indexAt t v vi) out.x:=by
 unfold Bo at h;split at h
 .rename_i et s e k i ht;split at h
  next hok=>simp at h;subst h;obtain⟨o,h1,h2⟩:=MK hp ho;have rT:=hi k i rfl;rw[h1]at rT;subst rT;obtain⟨a,cap,h3,h4,h5,h6⟩:=H8 (hx _ rfl);rw[GU]at h2;simp only[C.toInt_int,Int.ofNat_lt]at h2;simp only[kE,lC]at h3;obtain⟨b,off,rfl,hn,hlt,hra⟩:=h6 (by intro h;rw[h]at h2;simp at h2);subst h3;obtain⟨c,hc⟩:∃c,(e.eval ρ).toList[o]?=some c:=⟨_,nL h2⟩;obtain⟨us,hl,hca,hrd⟩:=hra o c hc;refine⟨rfl,rfl,_,SG (AY ht) hok h2,b,_,us,rfl,hn,hlt,hca,?_,sS (by simp) (by simp) _⟩;simpa[E.eval,h1,List.getD,hc]using hrd
  simp at h
 .rename_i et r n k i ht;split at h
  .rename_i s e hr;split at h
   .rename_i hok;simp at h;subst h;obtain⟨o,h1,h2⟩:=MK hp ho;have rT:=hi k i rfl;rw[h1]at rT;subst rT;obtain⟨p,hin,hpp⟩:=uw hp hr;obtain⟨hkn,gq⟩:=hx _ rfl;obtain⟨rfl,hlen⟩:=gq _ _ p hin hpp;obtain⟨gM,xs,hown,_,_⟩:=hrows.row r _ _ p hin hpp;rw[hlen]at h2;have h2:o<(e.eval ρ).toList.length:=by omega
    rcases vF hown with⟨_,h6,_⟩|⟨g,cap,h5,h6,h7,_,_,_⟩
    .omega
    refine ⟨rfl,rfl,_,by rw[h5];exact SG (AY ht) hok h2,hkn,fun es' e' p' hin' _=>?_,fun cs p' hin' _=>?_⟩
    .rw[hin]at hin';simp at hin';obtain⟨rfl,rfl,rfl⟩:=hin';exact⟨o,g,h1,h2,by rw[h5];rfl,by simp,rfl,rfl⟩
    unfold eu at hin;unfold gZ at hin';split at hin<;>simp_all
   .simp at h
  simp at h
 .rename_i et r off n k i ht;split at h
  .rename_i s e hr;split at h
   .rename_i hok;simp at h;subst h;obtain⟨o,h1,h2⟩:=MK hp ho;have rT:=hi k i rfl;rw[h1]at rT;subst rT;obtain⟨p,hin,hpp⟩:=uw hp hr;obtain⟨hkn,gq⟩:=hx _ rfl;obtain⟨o',m,ho',hm,hle,a,cap,rfl,hmc,hcm,ha⟩:=gq _ _ p hin hpp;rw[hm]at h2;have h2:o<m:=by omega
    obtain⟨g,hg,rfl⟩:=ha (by omega);refine⟨rfl,rfl,_,SG (AY ht) hok h2,hkn,fun es' e' p' hin' _=>?_,fun cs p' hin' _=>?_⟩
    .rw[hin]at hin';simp at hin';obtain⟨rfl,rfl,rfl⟩:=hin';exact⟨o'+o,g,by simp[E.eval,sU,ho',h1],by omega,hg,by simp[pq],rfl,rfl⟩
    .unfold eu at hin;unfold gZ at hin';split at hin<;>simp_all
   simp at h
  .simp at h
 simp at h
theorem ais{t et:TypeId}{s:Sh}{n:Nat}(ht:P.underlying t=some (.array n et))(hok:wK P et s=true){b o:Nat}{k:IntKind}{j:Int}(h0:0<=j)(h:j<n):
  (Instr.indexAt t (.pointer (some ⟨b,o,none⟩)) (.int k j)).run P w=.ok (.pointer (some ⟨b,o+j.toNat*s.size,none⟩)) w:=by
 simp[Instr.indexAt,asIntOf,Instr.sureAddr,dR ht,RS hok,addr_add,h,h0]
theorem avA{pc:bq}(hp:bF ρ pc){t:TypeId}{x:Option SX}{i:Option (IntKind×E)}{out:Out}{v vi:Value}
  (h:BX P (bT bs) pc t x i=some out) (hx:∀y,x=some y->dA w N ρ bs hv y v) (hi:∀k e,i=some (k,e)->vi=.int k (e.eval ρ).toInt):
  out.jq=[]/\out.nv=0/\o7 P w N ρ bs hv (Instr.indexAt t v vi) out.x:=by
 unfold BX at h;split at h
 .rename_i r i0 s k j n et ht;split at h
  .rename_i s' off hf;split at h
   .rename_i hok;simp only[bB,dQ,beq_iff_eq]at hok;obtain⟨⟨h0,hn⟩,hel,hoff,hlv⟩:=hok;simp at h;subst h;obtain⟨hkn,hrow,tZ⟩:=hx _ rfl;have rT:=hi k _ rfl;simp only[E.eval,C.toInt_int]at rT;subst rT hoff;cases hrb:bT bs r with
    |none=>simp[rA,hrb]at hlv
    |some y=>
     obtain⟨lb,p⟩:=y;obtain⟨fz,hb⟩:=E5 hrb;cases lb with
     |row es e=>
      have hpp:bF ρ p:=xK (by simpa[rA,hrb]using hlv) hp;have hin:eu bs r=some (es,e,p):=by simp[eu,hb]
      obtain⟨o,g,ho,hlt,hg,rfl,_,rfl⟩:=hrow es e p hin hpp;refine⟨rfl,rfl,_,ais ht hel h0 hn,hkn,fun es' e' p' hin' _=>?_,fun cs p' hin' _=>?_⟩
      .rw[hin]at hin';simp at hin';obtain⟨rfl,rfl,rfl⟩:=hin';exact⟨o,g,ho,hlt,hg,by simp,hf⟩
      simp[gZ,hb]at hin'
     |box cs=>
      have hpp:bF ρ p:=xK (by simpa[rA,hrb]using hlv) hp;have hin:gZ bs r=some (cs,p):=by simp[gZ,hb]
      obtain⟨g,hg,rfl⟩:=tZ cs p hin hpp;refine⟨rfl,rfl,_,ais ht hel h0 hn,hkn,fun es' e' p' hin' _=>?_,fun cs p' hin' _=>⟨g,hg,by simp⟩⟩;simp[eu,hb]at hin'
     |_=>simp[rA,hrb]at hlv
   simp at h
  .simp at h
 simp at h
theorem asJ(hrows:rW w B N ρ bs hv){pc:bq}(hp:bF ρ pc){t:TypeId}{x:Option SX}{ki:IntKind}{i:Option (IntKind×E)}{out:Out}{v vi:Value}{nv:Nat}
  (h:Bw P (bT bs) pc t x i=some out) (hx:∀y,x=some y->dA w N ρ bs hv y v) (hi:∀k e,i=some (k,e)->vi=.int k (e.eval ρ).toInt) (ho:fG P ρ nv out.ji):
  out.jq=[]/\out.nv=0/\o7 P w N ρ bs hv (Instr.indexAt t v vi) out.x:=by
 unfold Bw at h;split at h
 .exact avA hp h hx hi
 exact arL (ki:=ki) hrows hp h hx hi ho
end
section
variable{P:Program}{w:World}{B:Nat->Prop}{N:Nat->Prop}{ρ:List C}{bs:List aL}{hv:Nat->Value}
theorem asI{pc:bq}(hp:bF ρ pc){t:TypeId}{x:Option SX}{i:Option (IntKind×E)}{out:Out}{v vi:Value}{nv:Nat}
  (h:KO P pc t x i=some out) (hx:∀y,x=some y->dA w N ρ bs hv y v) (hi:∀k e,i=some (k,e)->vi=.int k (e.eval ρ).toInt) (ho:fG P ρ nv out.ji):
  out.jq=[]/\out.nv=0/\o7 P w N ρ bs hv (Instr.index t v vi) out.x:=by
 unfold KO at h;split at h
 .rename_i e k i ht;simp at h;subst h;obtain⟨o,h1,h2⟩:=MK hp ho;have rT:=hi k i rfl;rw[h1]at rT;subst rT;have gq:=hx _ rfl;rw[uD]at gq;subst gq;simp[E.eval]at h2;refine⟨rfl,rfl,.int .u8 ((e.eval ρ).jk[o]).toNat,?_,by rw[jB];simp[E.eval,h1,List.getD,h2]⟩;have hg:(⟨(e.eval ρ).jk.toArray⟩:ByteArray)[o]?=some (e.eval ρ).jk[o]:=by
   rw[getElem?_pos _ o (by simpa[ByteArray.size]using h2)];simp[ByteArray.getElem_eq_getElem_data]
  simp[Instr.index,asIntOf,dR ht,hg]
 simp at h
theorem Nj{pc:bq}(hp:bF ρ pc){lo hi n:E}{nv:Nat}(h:fG P ρ nv (Io pc lo hi n)):
  ∃l k:Nat,(lo.eval ρ).toInt=(l:Int)/\(hi.eval ρ).toInt=(k:Int)/\l<=k/\(k:Int)<=(n.eval ρ).toInt:=by
 unfold Io at h;obtain⟨h1,h2⟩:=Kk hp h;obtain⟨h3,h4⟩:=Kk hp h2;have h5:=Da hp h4;simp[E.eval,mY]at h1 h3 h5;exact⟨(lo.eval ρ).toInt.toNat,(hi.eval ρ).toInt.toNat,by omega,by omega,by omega,by omega⟩
def UR(ρ:List C)(d:E)(o:Option Value)(e:E):Prop:=(o=none/\e=d)\/∃k,o=some (.int k (e.eval ρ).toInt)
theorem Nb(isSlice:Bool){lo hi:Option Value}{el eh n:E}{l k cap:Nat}(hl:UR ρ (.int 0) lo el)(hh:UR ρ n hi eh){len:Nat}(hn:(n.eval ρ).toInt=(len:Int))
  (h1:(el.eval ρ).toInt=(l:Int)) (h2:(eh.eval ρ).toInt=(k:Int)) (h3:l<=k) (h4:k<=cap):
  (Instr.sliceBounds isSlice len cap lo hi none).run P w=.ok (l,k,cap) w:=by
 rcases hl with⟨rfl,rfl⟩|⟨k1,rfl⟩
 .simp[E.eval]at h1;rcases hh with⟨rfl,rfl⟩|⟨k2,rfl⟩
  .have:len=k:=by omega
   subst this;have:l=0:=by omega
   subst this;simp[Instr.sliceBounds]
  .have:l=0:=by omega
   subst this;rw[h2];simp[Instr.sliceBounds,Instr.sliceBound,asIntOf,h4]
 rcases hh with⟨rfl,rfl⟩|⟨k2,rfl⟩
 .have:len=k:=by omega
  subst this;rw[h1];simp[Instr.sliceBounds,Instr.sliceBound,asIntOf,h3]
 rw[h1,h2];simp[Instr.sliceBounds,Instr.sliceBound,asIntOf,h3,h4]
theorem aqA{t et:TypeId}(ht:P.underlying t=some (.slice et))(x:Value)(lo hi mx:Option Value):(Instr.sliceAt t x lo hi mx).run P w=(Instr.slice t x lo hi mx).run P w:=by
 simp[Instr.sliceAt,dR ht]
theorem ao0{t:TypeId}(ht:P.underlying t=some .string)(x:Value)(lo hi mx:Option Value):(Instr.sliceAt t x lo hi mx).run P w=(Instr.slice t x lo hi mx).run P w:=by
 simp[Instr.sliceAt,dR ht]
theorem Rn{t et:TypeId}{s:Sh}(ht:P.underlying t=some (.slice et))(hok:wK P et s=true){a:Option Addr}{len cap:Nat}{lo hi:Option Value}{l k:Nat}
  (hb:(Instr.sliceBounds true len cap lo hi none).run P w=.ok (l,k,cap) w):
  (Instr.sliceAt t (.slice a len cap) lo hi none).run P w=.ok (.slice (if cap=l then a else a.map (·.add (l*s.size))) (k-l) (cap-l)) w:=by
 rw[aqA ht];simp[Instr.slice,dR ht,hb,RS hok]
theorem ada(s:List UInt8)(l h:Nat):(⟨s.toArray⟩:ByteArray).extract l h=⟨((s.take h).drop l).toArray⟩:=by
 apply ByteArray.ext;simp[ByteArray.data_extract,List.take_drop];by_cases hlh:l<=h
 .rw[Nat.add_sub_cancel' hlh]
 rw[DZ (by simp;omega),DZ (by simp;omega)]
theorem asg(hrows:rW w B N ρ bs hv){pc:bq}(hp:bF ρ pc){ev:Ev}{a:Act}(hev:∀o k e,ev pc o 0=some (.jo (.int k) e)->a.eval o=.int k (e.eval ρ).toInt)
  {t:TypeId}{x:Option SX}{lo hi:Option Operand}{out:Out}{v:Value}{nv:Nat}(h:EZ P ev (bT bs) pc t x lo hi=some out) (hx:∀y,x=some y->dA w N ρ bs hv y v) (ho:fG P ρ nv out.ji):
  out.jq=[]/\out.nv=0/\o7 P w N ρ bs hv (Instr.sliceAt t v (lo.map a.eval) (hi.map a.eval) none) out.x:=by
 have bnd:∀{o:Option Operand}{d e:E},wL ev pc d o=some e->UR ρ d (o.map a.eval) e:=by
  intro o d e h;unfold wL at h;cases o with
  |none=>simp at h;exact .inl ⟨rfl,h.symm⟩
  |some o=>
   simp only at h;split at h
   .rename_i k e' hi;simp at h;subst h;unfold tu at hi;split at hi
    next k' e'' he=>simp at hi;obtain⟨rfl,rfl⟩:=hi;exact .inr ⟨k',by simp[hev o _ _ he]⟩
    simp at hi
   .simp at h
 unfold EZ at h;split at h
 .rename_i e el ht hl;split at h
  .rename_i eh hh;simp at h;subst h;obtain⟨l,k,h1,h2,h3,h4⟩:=Nj hp ho;have gq:=hx _ rfl;rw[uD]at gq;subst gq;have hn:((E.gG e).eval ρ).toInt=((e.eval ρ).jk.length:Int):=by simp[E.eval]
   rw[hn]at h4;have hb:=Nb (P:=P) (w:=w) false (bnd hl) (bnd hh) hn h1 h2 h3 (cap:=(e.eval ρ).jk.length) (by omega);refine⟨rfl,rfl,.string ⟨(((e.eval ρ).jk.take k).drop l).toArray⟩,?_,by rw[uD];simp[E.eval,h1,h2]⟩;rw[ao0 ht];have hsz:ByteArray.size ⟨(e.eval ρ).jk.toArray⟩=(e.eval ρ).jk.length:=by show(e.eval ρ).jk.toArray.size=_;simp
   simp[Instr.slice,dR ht,hsz,hb,ada]
  simp at h
 .rename_i et s e el ht hl;split at h
  .rename_i hok;split at h
   .rename_i eh hh;simp at h;subst h;obtain⟨l,k,h1,h2,h3,h4⟩:=Nj hp ho;obtain⟨ad,cap,g3,g4,g5,g6⟩:=H8 (hx _ rfl);simp only[kE,lC]at g3;subst g3;have hn:((r9 e).eval ρ).toInt=((e.eval ρ).toList.length:Int):=by rw[GU];rfl
    rw[hn]at h4;have h4:k<=(e.eval ρ).toList.length:=by omega
    have hb:=Nb (P:=P) (w:=w) true (bnd hl) (bnd hh) hn h1 h2 h3 (cap:=cap) (by omega);have hlen:(((e.eval ρ).toList.take k).drop l).length=k-l:=by simp;omega
    refine⟨rfl,rfl,_,Rn ht hok hb,?_⟩;refine⟨[.slice (if cap=l then ad else ad.map (·.add (l*s.size))) (k-l) (cap-l)],⟨_,_,by simp only[E.eval,C.lF,h1,h2,dF,hlen];rfl,?_,?_,fun hne=>?_⟩,by simp[Sh.mk,Sh.isAgg],sS (by simp) (by simp) _⟩
    .simp only[E.eval,C.lF,h1,h2,dF,hlen];omega
    .omega
    simp only[E.eval,C.lF,h1,h2,dF]at hne |-;have hkl:l<k:=by
     rcases Nat.lt_or_ge l k with h|h
     .exact h
     .exact absurd (oC (by omega)) hne
    obtain⟨b,off,rfl,hN,hlt,hra⟩:=g6 (by intro h;rw[h]at h4;simp at h4;omega);rw[zq (by omega)];refine⟨b,off+l*s.size,by simp[addr_add],hN,hlt,fun i c hc=>?_⟩;rw[yK,sw]at hc;split at hc
    .obtain ⟨us,q1,q2,q3⟩:=hra _ c hc;exact⟨us,q1,by rw[pq,<-su]at q2;exact q2,q3⟩
    cases hc
   .simp at h
  simp at h
 .rename_i et r n el ht hl;split at h
  .rename_i s e eh hr hh;split at h
   .rename_i hok;simp at h;subst h;obtain⟨l,k,h1,h2,h3,h4⟩:=Nj hp ho;obtain⟨p,hin,hpp⟩:=uw hp hr;obtain⟨hkn,gq⟩:=hx _ rfl;obtain⟨rfl,hlen⟩:=gq _ _ p hin hpp;obtain⟨gM,xs,hown,_,_⟩:=hrows.row r _ _ p hin hpp;rw[hlen]at h4;have h4:k<=(e.eval ρ).toList.length:=by omega
    obtain⟨ad,cap,hv1,hv2,hv3,hv4⟩:∃ad cap,hv r=.slice ad (e.eval ρ).toList.length cap/\(e.eval ρ).toList.length<=cap/\cap<=maxLen/\(0<(e.eval ρ).toList.length->∃g,dI (hv r)=some g/\ad=some ⟨g,0,none⟩):=by
     rcases vF hown with⟨h5,h6,_⟩|⟨g,cap,h5,h6,h7,_,_,_⟩
     .exact ⟨none,0,by rw[h6];exact h5,by omega,by simp,fun h=>by omega⟩
     .exact ⟨_,cap,h5,h6,h7,fun _=>⟨g,by rw[h5];rfl,rfl⟩⟩
    have hb:=Nb (P:=P) (w:=w) true (bnd hl) (bnd hh) hlen h1 h2 h3 (cap:=cap) (by omega);refine⟨rfl,rfl,_,by rw[hv1];exact Rn ht hok hb,hkn,fun s' e' p' hin' _=>?_⟩;rw[hin]at hin';simp at hin';obtain⟨rfl,rfl,rfl⟩:=hin';refine⟨l,k-l,h1,by simp[E.eval,sU,h1,h2];omega,by omega,_,_,rfl,by omega,by omega,fun hm=>?_⟩;obtain⟨g,hg,rfl⟩:=hv4 (by omega);exact⟨g,hg,by rw[zq (by omega)];simp[addr_add]⟩
   .simp at h
  simp at h
 .rename_i et r off n el ht hl;split at h
  .rename_i s e eh hr hh;split at h
   next hok=>simp at h;subst h;obtain⟨l,k,h1,h2,h3,h4⟩:=Nj hp ho;obtain⟨p,hin,hpp⟩:=uw hp hr;obtain⟨hkn,gq⟩:=hx _ rfl;obtain⟨o,m,ho',hm,hle,ad,cap,rfl,hmc,hcm,ha⟩:=gq _ _ p hin hpp;rw[hm]at h4;have hb:=Nb (P:=P) (w:=w) true (bnd hl) (bnd hh) hm h1 h2 h3 (cap:=cap) (by omega);refine⟨rfl,rfl,_,Rn ht hok hb,hkn,fun s' e' p' hin' _=>?_⟩;rw[hin]at hin';simp at hin';obtain⟨rfl,rfl,rfl⟩:=hin';refine⟨o+l,k-l,by simp[E.eval,sU,h1,ho'],by simp[E.eval,sU,h1,h2];omega,by omega,_,_,rfl,by omega,by omega,fun hm=>?_⟩;obtain⟨g,hg,rfl⟩:=ha (by omega);exact⟨g,hg,by rw[zq (by omega)];simp[addr_add,pq]⟩
   simp at h
  .simp at h
 simp at h
theorem run_len_slice{t e:TypeId}(ht:P.underlying t=some (.slice e))(ty:TypeId)(a:Option Addr)(n c:Nat):(Builtin.len_ #[t] ty #[.slice a n c]).run P w=.ok (.int .i64 n) w:=by
 simp[Builtin.len_,dR ht,goInt]
theorem ave(hrows:rW w B N ρ bs hv){pc:bq}(hp:bF ρ pc){t ty:TypeId}{x:Option SX}{out:Out}{v:Value}(h:II P (bT bs) pc t x=some out)(hx:∀y,x=some y->dA w N ρ bs hv y v):
  out.jq=[]/\out.nv=0/\out.ji=[]/\o7 P w N ρ bs hv (Builtin.len_ #[t] ty #[v]) out.x:=by
 unfold II at h;split at h
 .rename_i e ht;simp at h;subst h;have gq:=hx _ rfl;rw[uD]at gq;subst gq;have hsz:ByteArray.size ⟨(e.eval ρ).jk.toArray⟩=(e.eval ρ).jk.length:=by show(e.eval ρ).jk.toArray.size=_;simp
  refine⟨rfl,rfl,rfl,.int .i64 (e.eval ρ).jk.length,?_,by rw[jB];simp[E.eval]⟩;simp[Builtin.len_,dR ht,goInt,hsz]
 next s e et ht=>simp at h;subst h;obtain⟨ad,cap,g3,g4,g5,g6⟩:=H8 (hx _ rfl);simp only[kE,lC]at g3;subst g3;exact⟨rfl,rfl,rfl,_,run_len_slice ht _ _ _ _,by rw[jB,GU];rfl⟩
 .rename_i et r n ht;split at h
  .rename_i y hr;simp at h;subst h;obtain⟨s,e⟩:=y;obtain⟨p,hin,hpp⟩:=uw hp hr;obtain⟨hkn,gq⟩:=hx _ rfl;obtain⟨rfl,hlen⟩:=gq _ _ p hin hpp;obtain⟨gM,xs,hown,_,_⟩:=hrows.row r _ _ p hin hpp;rcases vF hown with⟨h5,h6,_⟩|⟨g,cap,h5,h6,h7,_,_,_⟩
   .exact ⟨rfl,rfl,rfl,_,by rw[h5];exact run_len_slice ht _ _ _ _,by rw[jB,hlen,h6]⟩
   .exact ⟨rfl,rfl,rfl,_,by rw[h5];exact run_len_slice ht _ _ _ _,by rw[jB,hlen]⟩
  simp at h
 .rename_i et r off n ht;split at h
  next y hr=>simp at h;subst h;obtain⟨s,e⟩:=y;obtain⟨p,hin,hpp⟩:=uw hp hr;obtain⟨hkn,gq⟩:=hx _ rfl;obtain⟨o,m,ho',hm,hle,ad,cap,rfl,hmc,hcm,ha⟩:=gq _ _ p hin hpp;exact⟨rfl,rfl,rfl,_,run_len_slice ht _ _ _ _,by rw[jB,hm]⟩
  .simp at h
 simp at h
theorem aze{x y:Option SX}{out:Out}{v u:Value}{ts:Array TypeId}{ty:TypeId}(h:Eb .qR x y=some out)(hx:∀z,x=some z->dA w N ρ bs hv z v)(hy:∀z,y=some z->dA w N ρ bs hv z u):
  out.jq=[]/\out.nv=0/\out.ji=[]/\o7 P w N ρ bs hv (Builtin.min_ ts ty #[v,u]) out.x:=by
 unfold Eb at h;split at h
 .rename_i k a k' b;split at h
  .rename_i hk;subst hk;simp at h;subst h;have h1:=hx _ rfl;have h2:=hy _ rfl;rw[jB]at h1 h2;subst h1 h2;refine⟨rfl,rfl,rfl,_,run_min_int2 _ _ _ _ _ _ _,?_⟩;rw[jB];congr 1
   simp only[E.eval,C.toInt_int];split<;>omega
  .simp at h
 simp at h
theorem azf{x y:Option SX}{out:Out}{v u:Value}{ts:Array TypeId}{ty:TypeId}(h:Eb .FQ x y=some out)(hx:∀z,x=some z->dA w N ρ bs hv z v)(hy:∀z,y=some z->dA w N ρ bs hv z u):
  out.jq=[]/\out.nv=0/\out.ji=[]/\o7 P w N ρ bs hv (Builtin.max_ ts ty #[v,u]) out.x:=by
 unfold Eb at h;split at h
 .rename_i k a k' b;split at h
  .rename_i hk;subst hk;simp at h;subst h;have h1:=hx _ rfl;have h2:=hy _ rfl;rw[jB]at h1 h2;subst h1 h2;refine⟨rfl,rfl,rfl,_,run_max_int2 _ _ _ _ _ _ _,?_⟩;rw[jB];congr 1
   simp only[E.eval,C.toInt_int];split<;>omega
  .simp at h
 simp at h
theorem NH{k:IntKind}:∀{l:List C}{xs:List Value},cZ w N (.int k) xs l↔xs=l.map fun c=> .int k c.toInt
 | [],xs=>by simp[cZ]
 |c::l,xs=>by
  simp only[cZ,NH (l:=l),Rd,jG];constructor
  .rintro ⟨u,r,rfl,rfl,rfl⟩;rfl
  rintro rfl;exact⟨_,_,rfl,rfl,rfl⟩
theorem foldl_push:∀(l:List Int) (s:List UInt8),l.foldl (fun r n=>r.push (UInt8.ofNat n.toNat)) (⟨s.toArray⟩:ByteArray)=⟨(s++l.map fun n=>UInt8.ofNat n.toNat).toArray⟩
 | [],s=>by simp
 |n::l,s=>by
  have h:(⟨s.toArray⟩:ByteArray).push (UInt8.ofNat n.toNat)=⟨(s++ [UInt8.ofNat n.toNat]).toArray⟩:=by
   apply ByteArray.ext;simp[ByteArray.push]
  rw[Ak,h,foldl_push l];simp
theorem afe{v:Value}{c:C}(h:Rd w N (.sl (.int .u8)) [v] c):(Conv.bytesToString v).run P w=.ok (.string ⟨(bytesOf c.toList).toArray⟩) w:=by
 obtain⟨a,cap,h1,h2,h3,h4⟩:=h;simp only[kE,lC]at h1;subst h1;by_cases hne:c.toList=[]
 .cases a with
  |none=>simp[Conv.bytesToString,hne,bytesOf];rfl
  |some a=>
   have hr:=run_bytesToString (P:=P) w a 0 cap [] (by simp[loadCells,loadCellsFrom]);rw[hne];exact hr
 obtain ⟨b,off,rfl,_,_,hra⟩:=h4 hne;obtain⟨xs,hx,hc⟩:=wT.row (s:=.int .u8) hra;rw[NH]at hx;have hl:(loadCells ⟨b,off,none⟩ c.toList.length).run P w=.ok ((c.toList.map C.toInt).map (Value.int .u8)).toArray w:=by
  have:=run_loadCells_list (P:=P) w ⟨b,off,none⟩ xs (fun j v hv=>by rw[addr_add];exact hc j v hv);rw[hx]at this;simpa[Function.comp_def]using this
 have hr:=run_bytesToString (P:=P) w ⟨b,off,none⟩ c.toList.length cap (c.toList.map C.toInt) hl;rw[hr];have e:=foldl_push (c.toList.map C.toInt) [];simp only[iw]at e;rw[show ByteArray.empty=(⟨([]:List UInt8).toArray⟩:ByteArray)from rfl,e];simp[bytesOf]
def Wq(P:Program)(w:World)(N:Nat->Prop)(ρ:List C)(bs:List aL)(hv:Nat->Value)(m:Sem Value)(x:SX):Prop:=
 ∃v w',m.run P w=.ok v w'/\Below w.heap.size w w'/\dA w' N ρ bs hv x v
theorem o7.Wn{m:Sem Value}{x:SX}(h:o7 P w N ρ bs hv m x):Wq P w N ρ bs hv m x:=let ⟨v,h1,h2⟩:=h;⟨v,w,h1,eD _ _,h2⟩
theorem afg{et:TypeId}(s:List UInt8)(hs:(s.length:Int)<=9223372036854775807)(hN:∀b,w.heap.size<=b->N b):∃v w',(Conv.stringToBytes et ⟨s.toArray⟩).run P w=.ok v w'/\Below w.heap.size w w'/\Rd w' N (.sl (.int .u8)) [v] (.ls (ofBytes s)):=by
 have hge:=grownCap_ge w s.length 0 et;have hcm:grownCap w s.length 0 et<=maxLen:=grownCap_le_maxLen w s.length 0 et (by simp only[maxLen];omega);have hsz:ByteArray.size ⟨s.toArray⟩=s.length:=by show s.toArray.size=_;simp
 refine⟨.slice (some ⟨w.heap.size,0,none⟩) s.length (grownCap w s.length 0 et),
  (w.drew.alloc (.cells ((s.map fun b=>Value.int .u8 (b.toNat:Int)).toArray++Array.replicate (grownCap w s.length 0 et-s.length) (.int .u8 0)) et)).freeze ⟨w.heap.size,grownCap w s.length 0 et,none⟩ 1,?_,?_,?_⟩
 .have hgc:(Question.appendCap s.length 0 et).cut (w.tape w.drawn (Question.appendCap s.length 0 et))=grownCap w s.length 0 et:=rfl;have hsh:∀(arr:Array Value),(w.drew.alloc (.cells arr et)).shape? w.heap.size=some (et,arr.size):=fun arr=>by
   have:=xB w.drew (.cells arr et);rw[heap_drew]at this;unfold World.shape?;rw[this]
  have hcs:s.length+(grownCap w s.length 0 et-s.length)=grownCap w s.length 0 et:=by omega
  simp[Conv.stringToBytes,hsz,Question.forced,newRow,markStringish,hgc,hsh,hcs]
 .refine ⟨rfl,rfl,rfl,by simp[World.freeze],fun k hk=>?_⟩;simp only[World.freeze];rw[zq (by omega)];simp only[zn];rw[zq (by omega)];exact lX w.drew _ k hk
 have hlen:(ofBytes s).length=s.length:=by simp[ofBytes]
 refine⟨_,_,by simp only[C.lF,hlen],by simp only[C.lF,hlen];exact hge,hcm,fun _=>⟨w.heap.size,0,rfl,hN _ (aS _),by simp[World.freeze],?_⟩⟩;have hhp:=xB w.drew (.cells ((s.map fun b=>Value.int .u8 (b.toNat:Int)).toArray++Array.replicate (grownCap w s.length 0 et-s.length) (.int .u8 0)) et);rw[heap_drew]at hhp;refine wT.of_row (s:=.int .u8) (xs:=s.map fun b=>Value.int .u8 (b.toNat:Int)) ?_ fun j u hu=>?_
 .rw[NH];simp[ofBytes,Function.comp_def]
 have hj:j<s.length:=by have:=(zy.1 hu).1;simpa using this
 have hh:∀fr,((w.drew.alloc (.cells ((s.map fun b=>Value.int .u8 (b.toNat:Int)).toArray++Array.replicate (grownCap w s.length 0 et-s.length) (.int .u8 0)) et)).freeze ⟨w.heap.size,grownCap w s.length 0 et,none⟩ 1).heap[w.heap.size]?=some fr->
   ∃f,fr=.cells ((s.map fun b=>Value.int .u8 (b.toNat:Int)).toArray++Array.replicate (grownCap w s.length 0 et-s.length) (.int .u8 0)) et f:=by
  intro fr hfr;simp only[World.freeze]at hfr;rw[zq (by omega)]at hfr;simp only[zn,eO,hhp,yL,dP]at hfr;exact⟨_,hfr.symm⟩
 have hex:∃fr,((w.drew.alloc (.cells ((s.map fun b=>Value.int .u8 (b.toNat:Int)).toArray++Array.replicate (grownCap w s.length 0 et-s.length) (.int .u8 0)) et)).freeze ⟨w.heap.size,grownCap w s.length 0 et,none⟩ 1).heap[w.heap.size]?=some fr:=
  ⟨_,Mf (by simp[World.freeze])⟩
 obtain⟨fr,hfr⟩:=hex;obtain⟨f,rfl⟩:=hh fr hfr;rw[cell_of_row _ _ _ _ et f hfr,kD];simp only[ow]at hu;simp[Array.getElem?_append,hj];simpa[nL hj]using hu
theorem aum(hrows:rW w B N ρ bs hv){pc:bq}(hp:bF ρ pc){src dst:TypeId}{x:Option SX}{out:Out}{v:Value}{nv:Nat}(h:Ip P (bT bs) pc src dst x=some out)
  (hx:∀y,x=some y->dA w N ρ bs hv y v) (ho:fG P ρ nv out.ji) (hN:∀b,w.heap.size<=b->N b):
  out.jq=[]/\out.nv=0/\Wq P w N ρ bs hv (convert src dst v) out.x:=by
 unfold Ip at h;split at h
 next d k k' e hs hd=>simp at h;subst h;have gq:=hx _ rfl;rw[jB]at gq;subst gq;refine⟨rfl,rfl,o7.Wn ⟨.int k (k.wrap (e.eval ρ).toInt),?_,by rw[jB];rfl⟩⟩;simp[convert,dR hs,dR hd,Conv.intToInt]
 next e hs hd=>simp at h;subst h;have gq:=hx _ rfl;rw[uD]at gq;subst gq;refine⟨rfl,rfl,o7.Wn ⟨_,?_,by rw[uD]⟩⟩;simp[convert,dR hs,dR hd]
 .rename_i t x hs hd;split at h
  next e f ht hdat=>simp at h;subst h;have gq:=H8 (AU hrows hp hdat (hx _ rfl));obtain⟨a,cap,h1,_⟩:=id gq;simp only[kE,lC]at h1;refine⟨rfl,rfl,o7.Wn ⟨.string ⟨(bytesOf (e.eval ρ).toList).toArray⟩,?_,by rw[uD];rfl⟩⟩;rw[<-afe (P:=P) gq,h1,run_convert_bytes_string w src dst t _ _ _ hs ht hd]
  simp at h
 .rename_i t e hs hd;split at h
  next ht=>simp at h;subst h;have gq:=hx _ rfl;rw[uD]at gq;subst gq;have h0:=ho.1 hp;simp[E.eval,IntKind.max,IntKind.signed,IntKind.bits]at h0;obtain⟨v,w',h1,h2,h3⟩:=afg (P:=P) (w:=w) (N:=N) (et:=t) (e.eval ρ).jk h0.2 hN;refine⟨rfl,rfl,v,w',?_,h2,[v],h3,by simp[Sh.mk,Sh.isAgg],sS (by simp) (by simp) _⟩;simp[convert,dR hs,dR hd,dR ht,h1]
  .simp at h
 simp at h
end
end Go.Vc
