/-
  My own general texts, one behind the other: a generator of conditions over the model, with its proof, and plain lemmas. No condition on the program.
-/
import Derived.Test.YtaehhpempnelhaaGreatDoorQBase3
import Derived.LaidLaws
import Derived.Lay
import Derived.Lib.LaidU8
import Derived.Stop.Joined
import Derived.JoinedOf
namespace Go.Plain
def putAt(b:List UInt8)(k:Nat)(x:List UInt8):List UInt8:=b.take k++(x++b.drop (k+x.length))
theorem Dt(b:List UInt8)(k:Nat)(x:List UInt8)(h:k+x.length<=b.length):(putAt b k x).length=b.length:=by
 unfold putAt;simp;omega
theorem HY(b:List UInt8)(k:Nat)(y:UInt8)(h:k<b.length):b.set k y=putAt b k [y]:=by
 unfold putAt;rw[List.set_eq_take_append_cons_drop,if_pos h];rfl
def nV(ak:Bool)(id:Int)(old:Nat):UInt8:=if ak then UInt8.ofNat (id.toNat%16*16+old%16) else UInt8.ofNat id.toNat
def gG(p:Pl):Prop:=p.drops≠[]\/p.adds≠[]
instance(p:Pl):Decidable (gG p):=by unfold gG;infer_instance
def gU(p:Pl):Prop:=p.maps≠[]\/p.over≠[]\/gG p
instance(p:Pl):Decidable (gU p):=by unfold gU;infer_instance
def jg(p:Pl):Prop:=¬gG p/\p.np=false
instance(p:Pl):Decidable (jg p):=by unfold jg;infer_instance
def JH(p:Pl)(h:Hd):Hd:=
 {h with
  mark:=if p.sm then p.m else h.mark
  typ:=if p.st then p.ty else h.typ
  seq:=if p.sq then p.seq.toNat else h.seq
  time:=if p.bL then p.time.toNat else h.time
  aN:=if p.ss then p.aN.toNat else h.aN
  pad:=if p.np then false else h.pad}
def kV(p:Pl)(k:Pk):Pk:= {k with hd:=JH p k.hd,pad:=if p.np then 0 else k.pad}
def jP(k:Pk):Option (List El):=if k.hd.ext then (if (spots k.aD k.ext).2=0 then some (oL k.aD k.ext) else none) else some []
def jh(p:Pl)(k:Pk):Option (List El):=match jP k with
 |none=>none
 |some l=>if mG p l/\(gG p\/k.aD≠48862\/∀m∈p.maps,m.to<=14) then some (qJ p l) else none
def iC(k:Pk):Bool:=decide (k.aD=48862)
def uh(p:Pl)(ak:Bool)(x:List UInt8)(s:Sp):List UInt8:=
 let y:=if (s.id:Int)∈p.maps.map (·.fr) then putAt x (s.pos-ahead ak) [nV ak (newId p s.id) (at_ x (s.pos-ahead ak))] else x
 if (s.id:Int)∈aZ p.over then putAt y s.pos (j5 p s.id []) else y
def sw(p:Pl)(k:Pk):List UInt8:=(spots k.aD k.ext).1.foldl (uh p (iC k)) k.ext
def dL(p:Pl)(k:Pk)(l:List El):Pk:=
 if gU p then
  if gG p then {kV p k with hd:= {JH p k.hd with ext:=decide (l≠[])},aD:=if l=[] then 0 else rT l,ext:=if l=[] then [] else vD l}
  else {kV p k with ext:=sw p k}
 else kV p k
def behind(p:Pl)(k:Pk):Option Pk:=
 if fT p then
  match (if gU p then jh p k else some []) with
  |none=>none
  |some l=>if (dL p k l).right then some (dL p k l) else none
 else none
theorem Zv{p:Pl}{x:Int}(h:x∉p.maps.map (·.fr)):newId p x=x:=by
 unfold newId;rw[List.find?_eq_none.2];intro m hm he;exact h (List.mem_map.2 ⟨m,hm,by simpa using he⟩)
theorem ZF{p:Pl}{x:Int}(d:List UInt8)(h:x∉aZ p.over):j5 p x d=d:=by
 unfold j5;rw[List.find?_eq_none.2];intro m hm he;exact h (List.mem_map.2 ⟨m,hm,by simpa using he⟩)
theorem amR{p:Pl}{x:Int}(d d':List UInt8)(h:x∈aZ p.over):j5 p x d=j5 p x d':=by
 unfold j5;cases hf:p.over.find? (·.id==x) with
 |some e=>rfl
 |none=>
  rw[List.find?_eq_none] at hf;obtain ⟨e,he,hx⟩:=List.mem_map.1 h;exact absurd (by simpa using hx) (hf e he)
theorem aqb{p:Pl}{x:Int}(h:x∈p.maps.map (·.fr)):∃m∈p.maps,m.fr=x/\newId p x=m.to:=by
 unfold newId;cases hf:p.maps.find? (·.fr==x) with
 |some m=>exact ⟨m,List.mem_of_find?_eq_some hf,by simpa using List.find?_some hf,rfl⟩
 |none=>
  rw[List.find?_eq_none] at hf;obtain ⟨e,he,hx⟩:=List.mem_map.1 h;exact absurd (by simpa using hx) (hf e he)
theorem aaz{p:Pl}{x:Int}(d:List UInt8)(h:x∈aZ p.over):∃e∈p.over,e.id=x/\j5 p x d=e.data:=by
 unfold j5;cases hf:p.over.find? (·.id==x) with
 |some m=>exact ⟨m,List.mem_of_find?_eq_some hf,by simpa using List.find?_some hf,rfl⟩
 |none=>
  rw[List.find?_eq_none] at hf;obtain ⟨e,he,hx⟩:=List.mem_map.1 h;exact absurd (by simpa using hx) (hf e he)
end Go.Plain
namespace Go.Plain
inductive Dr where
 |num (v n:Nat)
 |sec
 |nI (to:Int)
 |data (d:List UInt8)
structure fE where
 field:Int
 pos:Nat
 size:Nat
 dr:Dr
def JU(p:Pl)(b:Nat):Nat:=
 let x:=if p.st then b/128*128+p.ty.toNat else b
 let y:=if p.sm then x%128 else x
 if p.m then 128+y%128 else y
def Dr.draw(p:Pl)(ak:Bool)(was:List UInt8):Dr->List UInt8
 | .num v n=>bT n v
 | .sec=> [UInt8.ofNat (JU p (at_ was 0))]
 | .nI to=> [nV ak to (at_ was 0)]
 | .data d=>d
def ou(p:Pl):List fE:=
 (if p.sm=true\/p.st=true then [⟨2,1,1,.sec⟩] else [])++((if p.sq then [⟨3,2,2,.num p.seq.toNat 2⟩] else [])++((if p.bL then [⟨4,4,4,.num p.time.toNat 4⟩] else [])++(if p.ss then [⟨5,8,4,.num p.aN.toNat 4⟩] else [])))
def jF(p:Pl)(ak:Bool)(fr:Nat)(s:Sp):List fE:=
 (p.maps.filter fun m=>decide (m.fr=(s.id:Int))).map (fun m=>⟨9,fr+s.pos-ahead ak,1,.nI m.to⟩)++(p.over.filter fun e=>decide (e.id=(s.id:Int)/\e.data≠[])).map (fun e=>⟨9,fr+s.pos,s.size,.data e.data⟩)
def qQ(k:Pk):Nat:=12+4*k.hd.bD.length+4
def yw(p:Pl)(k:Pk):List fE:=if k.hd.ext=true then (spots k.aD k.ext).1.flatMap (jF p (iC k) (qQ k)) else []
def strokes(p:Pl)(k:Pk):List fE:=ou p++yw p k
def sG(p:Pl)(ak:Bool)(b:List UInt8)(s:fE):List UInt8:=putAt b s.pos (s.dr.draw p ak ((b.drop s.pos).take s.size))
def adp(p:Pl)(k:Pk)(b:List UInt8):List UInt8:=(strokes p k).foldl (sG p (iC k)) b
theorem filter_map_one{α:Type}{l:List α}{f:α->Int}(hn:(l.map f).Nodup){x:α}(hx:x∈l):l.filter (fun y=>decide (f y=f x))=[x]:=by
 induction l with
 |nil=>cases hx
 |cons a l ih=>
  simp only[List.map_cons,List.nodup_cons] at hn;rcases List.mem_cons.1 hx with rfl|h
  .rw[List.filter_cons_of_pos (by simp),List.filter_eq_nil_iff.2];intro y hy he;exact hn.1 (List.mem_map.2 ⟨y,hy,by simpa using he⟩)
  .rw[List.filter_cons_of_neg,ih hn.2 h];intro he;exact hn.1 (by rw[show f a=f x by simpa using he];exact List.mem_map.2 ⟨x,h,rfl⟩)
end Go.Plain
namespace Go.Plain
theorem alH{ak:Bool}{q:Nat}(h:zZ ak q):decide (q=48862)=ak:=by
 unfold zZ at h;cases ak with
 |true=>simpa using h
 |false=>simp only[Bool.false_eq_true,if_false] at h;simp;omega
end Go.Plain
namespace Go.Plain
theorem aqo{b x:List UInt8}{k i:Nat}(h:k+x.length<=b.length)(hi:i<k\/k+x.length<=i):at_ (putAt b k x) i=at_ b i:=by
 unfold putAt;simp only[at_,List.getD_eq_getElem?_getD];rcases hi with hi|hi
 .rw[List.getElem?_append_left (by simp;omega),List.getElem?_take,if_pos hi]
 .have ht:(b.take k).length=k:=by simp;omega
  rw[List.getElem?_append_right (by omega),ht,List.getElem?_append_right (by omega),List.getElem?_drop];congr 4
  omega
def Fh(p:Pl)(ak:Bool)(n:Nat)(s:fE):Prop:=(∀was,(s.dr.draw p ak was).length=s.size)/\s.pos+s.size<=n
theorem MO{p:Pl}{ak:Bool}:∀(l:List fE) (b:List UInt8),(∀s∈l,Fh p ak b.length s)->(l.foldl (sG p ak) b).length=b.length/\
  ∀i,(∀s∈l,i<s.pos\/s.pos+s.size<=i)->at_ (l.foldl (sG p ak) b) i=at_ b i
 | [],b,_=>⟨rfl,fun _ _=>rfl⟩
 |s::l,b,h=>by
  obtain ⟨h1,h2⟩:=h s (by simp);have hl:(sG p ak b s).length=b.length:=Dt _ _ _ (by rw[h1];exact h2);obtain ⟨i1,i2⟩:=MO l (sG p ak b s) (fun x hx=>by rw[hl];exact h x (by simp[hx]));refine ⟨by rw[List.foldl_cons,i1,hl],fun i hi=>?_⟩;rw[List.foldl_cons,i2 i (fun x hx=>hi x (by simp[hx]))];have:=hi s (by simp);exact aqo (by rw[h1];exact h2) (by rw[h1];exact this)
theorem Zj(ak:Bool):∀(l:List (Nat×El)) (p:Nat),∀s∈mK ak p l,∃x∈l,s.id=x.2.id.toNat/\s.size=x.2.data.length/\p+ahead ak<=s.pos/\s.pos+s.size<=p+(lay ak l).length
 | [],_,s,h=>by cases h
 |(n,e)::l,p,s,h=>by
  have e1:(lay ak ((n,e)::l)).length=n+((enc ak e).length+(lay ak l).length):=by simp[lay]
  have e2:=Hq ak e;rw[mK] at h;rcases List.mem_cons.1 h with rfl|h
  .exact ⟨(n,e),by simp,rfl,rfl,by simp only;omega,by simp only;omega⟩
  .obtain ⟨x,h1,h2,h3,h4,h5⟩:=Zj ak l _ s h;exact ⟨x,by simp[h1],h2,h3,by omega,by omega⟩
theorem amr{p:Pl}(hp:fT p){e:El}(he:e∈p.over)(d:List UInt8):j5 p e.id d=e.data:=by
 have nd2:(p.over.map (·.id)).Nodup:=((tL _).1 (Bo hp.2.2.2.2.1)).2;obtain ⟨o,ho,h1,h2⟩:=aaz (p:=p) (x:=e.id) d (List.mem_map.2 ⟨e,he,rfl⟩);have f1:=filter_map_one nd2 he;have f2:=filter_map_one nd2 ho;rw[h1] at f2;rw[f1] at f2;have:e=o:=by simpa using f2
 rw[h2,this]
theorem Bp{p:Pl}{k x:Pk}(hx:behind p k=some x):fT p/\∃l,(if gU p then jh p k=some l else l=[])/\x=dL p k l/\x.right:=by
 unfold behind at hx;split at hx
 .rename_i hp;refine ⟨hp,?_⟩;by_cases ha:gU p
  .simp only[if_pos ha] at hx |-;cases hl:jh p k with
   |none=>rw[hl] at hx;cases hx
   |some l=>
    rw[hl] at hx;simp only at hx;split at hx
    .rename_i hr;obtain rfl:=Option.some.inj hx;exact ⟨l,rfl,rfl,hr⟩
    .cases hx
  .simp only[if_neg ha] at hx |-;split at hx
   .rename_i hr;obtain rfl:=Option.some.inj hx;exact ⟨[],rfl,rfl,hr⟩
   .cases hx
 .cases hx
theorem Zd{p:Pl}(h:¬gU p):p.maps=[]/\p.over=[]/\p.drops=[]/\p.adds=[]:=by
 unfold gU gG at h;simp only[not_or,Decidable.not_not] at h;exact ⟨h.1,h.2.1,h.2.2⟩
theorem YC{p:Pl}{k:Pk}{l:List El}(h:jh p k=some l):∃w,jP k=some w/\mG p w/\(gG p\/k.aD≠48862\/∀m∈p.maps,m.to<=14)/\l=qJ p w:=by
 unfold jh at h;cases hw:jP k with
 |none=>rw[hw] at h;cases h
 |some w=>
  rw[hw] at h;simp only at h;split at h
  .rename_i hm;exact ⟨w,rfl,hm.1,hm.2,(Option.some.inj h).symm⟩
  .cases h
theorem ak8{p:Pl}{k x:Pk}(hk:jg p)(hx:behind p k=some x)(n:Nat)(hn:12+4*k.hd.bD.length+(if k.hd.ext then 4+k.ext.length else 0)<=n):∀s∈strokes p k,Fh p (iC k) n s:=by
 obtain ⟨hp,l,hl,_,_⟩:=Bp hx;intro s hs;unfold strokes at hs;rcases List.mem_append.1 hs with hs|hs
 .unfold ou at hs;simp only[List.mem_append] at hs;rcases hs with hs|hs|hs|hs;all_goals
   split at hs
   .obtain rfl:=List.mem_singleton.1 hs;refine ⟨fun was=>by simp[Dr.draw],by simp only;omega⟩
   .cases hs
 .unfold yw at hs;split at hs
  .rename_i he;rw[if_pos he] at hn;obtain ⟨sp,hsp,hs⟩:=List.mem_flatMap.1 hs;by_cases hany:gU p
   .rw[if_pos hany] at hl;obtain ⟨w,hw,⟨m1,m2,m3⟩,h14,_⟩:=YC hl;unfold jP at hw;rw[if_pos he] at hw;split at hw
    .rename_i hz;obtain rfl:=Option.some.inj hw;obtain ⟨ak,el,r,hq,hb,hsl,hf,hst⟩:=VO hz;obtain ⟨d1,d2⟩:=alP (q:=k.aD) hb hsl hf;have hnar:iC k=ak:=alH hq;have hdr:p.drops=[]:=by
      cases hd:p.drops with
      |nil=>rfl
      |cons a b=>exact absurd (Or.inl (by rw[hd];simp)) hk.1
     rw[hsl] at hsp;obtain ⟨y,hy,s1,s2,s3,s4⟩:=Zj ak el 0 sp hsp;have hlen:(lay ak el).length<=k.ext.length:=by rw[hb];simp
     have hid:1<=y.2.id:=by
      have:=hf y hy;cases ak with
      |true=>have:=Mk this;omega
      |false=>have:=akO this;omega
     unfold jF at hs;rw[hnar] at hs |-;rcases List.mem_append.1 hs with hs|hs
     .obtain ⟨m,_,rfl⟩:=List.mem_map.1 hs;refine ⟨fun was=>by simp[Dr.draw],?_⟩;simp only;unfold qQ;have:1<=ahead ak:=by unfold ahead;split<;>omega
      omega
     .obtain ⟨e,he2,rfl⟩:=List.mem_map.1 hs;rw[List.mem_filter] at he2;obtain ⟨he3,Qa⟩:=he2;have Qa:e.id=(sp.id:Int)/\e.data≠[]:=by simpa using Qa
      have PN:e.id=y.2.id:=by rw[Qa.1,s1];omega
      have JG:e.data.length=sp.size:=by
       have:=m2 y.2 (by rw[d1];exact List.mem_map.2 ⟨y,hy,rfl⟩) (by rw[hdr];simp);rw[<-PN,amr hp he3] at this;rw[this,s2]
      refine ⟨fun was=>by simp[Dr.draw,JG],?_⟩;simp only;unfold qQ;omega
    .cases hw
   .obtain ⟨q1,q2,_⟩:=Zd hany;unfold jF at hs;rw[q1,q2] at hs;simp at hs
  .cases hs
end Go.Plain
namespace Go.Plain
theorem BF{p:Pl}{k:Pk}{l:List El}(hp:fT p)(hl:if gU p then jh p k=some l else l=[])(hr:(dL p k l).right):behind p k=some (dL p k l):=by
 unfold behind;rw[if_pos hp];by_cases ha:gU p
 .rw[if_pos ha] at hl |-;rw[hl];simp only;rw[if_pos hr]
 .rw[if_neg ha] at hl |-;subst hl;simp only;rw[if_pos hr]
theorem U0{p q:Pl}{k k':Pk}(h1:p.maps=q.maps)(h2:p.over=q.over)(h3:p.drops=q.drops)(h4:p.adds=q.adds)(k1:k.hd.ext=k'.hd.ext)(k2:k.aD=k'.aD)(k3:k.ext=k'.ext):
  jh p k=jh q k'/\sw p k=sw q k'/\(gU p↔gU q)/\(gG p↔gG q):=by
 obtain ⟨sm,m,st,ty,sq,seq,bL,time,ss,aN,maps,over,drops,adds,np⟩:=p;simp only at h1 h2 h3 h4;subst h1 h2 h3 h4;refine ⟨?_,?_,Iff.rfl,Iff.rfl⟩
 .unfold jh jP;rw[k1,k2,k3];rfl
 .unfold sw iC;rw[k2,k3];rfl
def qj(p:Pl):Pl:= {Pl.zero with sq:=p.sq,seq:=p.seq,bL:=p.bL,time:=p.time}
def kF(p:Pl)(els:List El):Pl:= {Pl.zero with ss:=p.ss,aN:=p.aN,over:=els}
def kC(p:Pl)(els:List El):Pl:= {Pl.zero with sq:=p.sq,seq:=p.seq,bL:=p.bL,time:=p.time,ss:=p.ss,aN:=p.aN,over:=els}
theorem Yw{a b:Pk}(h1:a.hd.typ=b.hd.typ)(h2:a.hd.bD=b.hd.bD)(h3:a.hd.ext=b.hd.ext)(h4:a.hd.pad=b.hd.pad)(h5:a.aD=b.aD)(h6:a.ext=b.ext)(h7:a.pay=b.pay)(h8:a.pad=b.pad):a.right->b.right:=by
 rintro ⟨⟨⟨r1,r2,r3⟩,f2,f3,f4,f5⟩,f6⟩;unfold Pk.sum at f6;rw[h2,h7,h8,h3,h6] at f6;rw[h1] at r1 r2;rw[h2] at r3;rw[h6] at f2 f3 f4;rw[h3,h5] at f4;rw[h4,h8] at f5;exact ⟨⟨⟨r1,r2,r3⟩,f2,f3,f4,f5⟩,f6⟩
theorem order{p:Pl}{els:List El}{k x y:Pk}(hx:behind (qj p) k=some x)(hy:behind (kF p els) k=some y):
  ∃z,behind (kF p els) x=some z/\behind (qj p) y=some z/\behind (kC p els) k=some z/\jg (qj p)/\jg (kF p els)/\jg (kC p els):=by
 obtain ⟨p1,l1,e1,rfl,r1⟩:=Bp hx;obtain ⟨p2,l2,e2,rfl,r2⟩:=Bp hy;have n1:¬gU (qj p):=by unfold gU gG qj;simp[Pl.zero]
 rw[if_neg n1] at e1;subst e1;have a2:¬gG (kF p els):=by unfold gG kF;simp[Pl.zero]
 have a3:¬gG (kC p els):=by unfold gG kC;simp[Pl.zero]
 have o1:∀k,dL (qj p) k []=kV (qj p) k:=fun k=>by unfold dL;rw[if_neg n1]
 have k1:jg (qj p):=⟨fun h=>n1 (.inr (.inr h)),rfl⟩;have k2:jg (kF p els):=⟨a2,rfl⟩;have k3:jg (kC p els):=⟨a3,rfl⟩;have p3:fT (kC p els):=by
  obtain ⟨⟨_,_,b1,b2,_,_,_⟩,_⟩:=p1;obtain ⟨⟨_,_,_,_,c1,_,_⟩,c2,c3,c4,c5,c6,c7,c8⟩:=p2;exact ⟨⟨.inr rfl,.inr rfl,b1,b2,c1,Int.le_refl _,(by decide:(0:Int)<=127)⟩,c2,c3,c4,c5,c6,c7,c8⟩
 rw[o1] at r1 hx |-;have cx:=U0 (p:=kF p els) (q:=kF p els) (k:=kV (qj p) k) (k':=k) rfl rfl rfl rfl rfl rfl rfl;have cb:=U0 (p:=kC p els) (q:=kF p els) (k:=k) (k':=k) rfl rfl rfl rfl rfl rfl rfl;by_cases ha:gU (kF p els)
 .rw[if_pos ha] at e2;have o2:∀k,dL (kF p els) k l2= {kV (kF p els) k with ext:=sw (kF p els) k}:=fun k=>by unfold dL;rw[if_pos ha,if_neg a2]
  have o3:dL (kC p els) k l2= {kV (kC p els) k with ext:=sw (kC p els) k}:=by unfold dL;rw[if_pos (cb.2.2.1.2 ha),if_neg a3]
  have ez:dL (kC p els) k l2=dL (kF p els) (kV (qj p) k) l2:=by rw[o3,o2,cb.2.1,cx.2.1];rfl
  have ey:kV (qj p) (dL (kF p els) k l2)=dL (kC p els) k l2:=by rw[o3,o2,cb.2.1];rfl
  have rz:(dL (kC p els) k l2).right:=by
   refine Yw (a:=dL (kF p els) k l2) ?_ ?_ ?_ ?_ ?_ ?_ ?_ ?_ r2<;>(rw[o3,o2];first|rfl|exact cb.2.1.symm)
  refine ⟨dL (kC p els) k l2,?_,?_,BF p3 (by rw[if_pos (cb.2.2.1.2 ha),cb.1,e2]) rz,k1,k2,k3⟩
  .rw[ez];exact BF p2 (by rw[if_pos ha,cx.1,e2]) (by rw[<-ez];exact rz)
  .rw[<-ey,<-o1];exact BF p1 (by rw[if_neg n1]) (by rw[o1,ey];exact rz)
 .rw[if_neg ha] at e2;subst e2;have hb:¬gU (kC p els):=fun h=>ha (cb.2.2.1.1 h);have o2:∀k,dL (kF p els) k []=kV (kF p els) k:=fun k=>by unfold dL;rw[if_neg ha]
  have o3:dL (kC p els) k []=kV (kC p els) k:=by unfold dL;rw[if_neg hb]
  have ez:dL (kC p els) k []=dL (kF p els) (kV (qj p) k) []:=by rw[o3,o2];rfl
  have ey:kV (qj p) (dL (kF p els) k [])=dL (kC p els) k []:=by rw[o3,o2];rfl
  have rz:(dL (kC p els) k []).right:=by
   refine Yw (a:=dL (kF p els) k []) ?_ ?_ ?_ ?_ ?_ ?_ ?_ ?_ r2<;>(rw[o3,o2];rfl)
  refine ⟨dL (kC p els) k [],?_,?_,BF p3 (by rw[if_neg hb]) rz,k1,k2,k3⟩
  .rw[ez];exact BF p2 (by rw[if_neg ha]) (by rw[<-ez];exact rz)
  .rw[<-ey,<-o1];exact BF p1 (by rw[if_neg n1]) (by rw[o1,ey];exact rz)
end Go.Plain
namespace Go.Plain
end Go.Plain
namespace Go.Plain
theorem G5(l:List El):iM l↔iL (aZ l)/\∀e∈l,e.data.length<=255:=by
 constructor
 .intro h;refine ⟨Bo h,fun e he=>?_⟩;obtain ⟨j,hj,rfl⟩:=List.getElem_of_mem he;have:=(h j hj).2.2.1;simpa [List.getD,hj] using this
 .rintro ⟨h1,h2⟩ j hj;have hj2:j<(aZ l).length:=by simpa [aZ] using hj
  obtain ⟨a,b,c⟩:=h1 j hj2;have e:(aZ l).getD j 0=(l.getD j El.zero).id:=by simp[aZ,List.getD,hj]
  have t:(aZ l).take j=aZ (l.take j):=by simp[aZ]
  rw[e] at a b c;rw[t] at c;refine ⟨a,b,?_,c⟩;have hm:l.getD j El.zero∈l:=by simp[List.getD,hj]
  exact h2 _ hm
theorem alx{p:Pl}(hp:fT p){w:List El}(hw:iM w)(hi:iL (aZ (qJ p w))):iM (qJ p w):=by
 rw[G5];refine ⟨hi,fun e he=>?_⟩;have h1:=((G5 _).1 hp.2.2.2.2.1).2;have h2:=((G5 _).1 hp.2.2.2.2.2.1).2;have h3:=((G5 _).1 hw).2;unfold qJ at he;rcases List.mem_append.1 he with he|he
 .obtain ⟨x,hx,rfl⟩:=List.mem_map.1 he;rw[List.mem_filter] at hx;unfold FH;simp only;by_cases ho:x.id∈aZ p.over
  .obtain ⟨o,ho2,_,e2⟩:=aaz x.data ho;rw[e2];exact h1 o ho2
  .rw[ZF _ ho];exact h3 x hx.1
 .exact h2 e he
theorem aj3(l:List El):rT l<65536:=by unfold rT;split<;>(try split)<;>omega
theorem anV{p:Pl}(hn:gH p){h:Hd}(ho:h.ok):(JH p h).ok:=by
 obtain ⟨n1,n2,n3,n4,n5,n6⟩:=hn;obtain ⟨o1,o2,o3,o4⟩:=ho;refine ⟨?_,?_,?_,o4⟩
 .show (if p.sq then p.seq.toNat else h.seq)<_;split<;>omega
 .show (if p.bL then p.time.toNat else h.time)<_;split<;>omega
 .show (if p.ss then p.aN.toNat else h.aN)<_;split<;>omega
theorem anv{p:Pl}(hn:gH p){k:Pk}(ho:k.ok)(l:List El):(dL p k l).ok:=by
 have h1:=anV hn ho.1;unfold dL;split
 .split
  .refine ⟨?_,?_⟩
   .obtain ⟨a,b,c,d⟩:=h1;exact ⟨a,b,c,d⟩
   .show (if l=[] then 0 else rT l)<65536;have:=aj3 l;split<;>omega
  .exact ⟨h1,ho.2⟩
 .exact ⟨h1,ho.2⟩
theorem ZK{p:Pl}(hn:gH p){k x:Pk}(ho:k.ok)(hx:behind p k=some x):x.right/\x.ok:=by
 obtain ⟨_,l,_,rfl,hr⟩:=Bp hx;exact ⟨hr,anv hn ho l⟩
end Go.Plain
set_option maxRecDepth 100000
namespace Go.Plain
def bW:List UInt8:=[144,96,0,1,0,0,0,2,0,0,0,3,190,222,0,1,48,7,0,0,9]
def oW:List UInt8:=[144,96,0,5,0,0,0,2,0,0,0,3,190,222,0,1,64,120,0,0,9]
def pW:Pl:= {Pl.zero with sq:=true,seq:=5,maps:=[⟨3,4⟩],over:=[⟨3,[120]⟩]}
def kW:Pk:=⟨⟨false,true,false,96,1,2,3,[]⟩,48862,[48,7,0,0],[9],0⟩
def xW:Pk:=⟨⟨false,true,false,96,5,2,3,[]⟩,48862,[64,120,0,0],[9],0⟩
theorem JX:cZ bW=0/\bG bW=kW:=by decide+kernel
theorem Px:cZ oW=0/\bG oW=xW:=by decide+kernel
theorem ari:behind pW kW=some xW:=by decide+kernel
theorem keepW:jg pW/\kW.right:=by decide+kernel
theorem aqt:adp pW kW bW=oW:=by decide+kernel
theorem elW:oL 48862 [64,120,0,0]=[⟨4,[120]⟩]/\(spots 48862 [64,120,0,0]).2=0:=by decide+kernel
end Go.Plain
namespace Go.Vc
open Go.ChangeShapes Go.WideShapes Go.ChangeAt Go.RowKit
theorem ao8{H:Type}{enc:TypeId×Value->H}{C:Checked}{os:Os}{f:FuncId}{fn:Func}{s:ChangeSpec}{conds:List PathCond}{laid:List (String×DataW Unit)}(hlt:f<1000000)(aL:∀W:World,laidMetH C.prog laid W->KW C.prog W)(own:ownKnob C.prog.godebug=none)(laidOut:laidOutB C.prog=true)
  (started:os.Started) (noInit:C.prog.inits.idxOf? f=none) (hfn:C.prog.funcs[f]?=some fn)
  (witness:∃(w:World) (tape:Tape) (i:Input),w.os=os/\(w.forCall tape i).Shaped C.prog/\i.vars=[]/\Input.okWide C.prog (w.forCall tape i) .any w.heap.size f i/\
   ((s.pre enc C.prog fn conds false (w.forCall tape i).memory i.args/\laidMetH C.prog laid (w.forCall tape i).memory)/\sizedMet enc C.prog fn (OpenSpec.ofChange s) false (w.forCall tape i).memory i.args)/\({}:Assume).holds C.prog (lone (Frame.enter C.prog f i.args .normal) [] (w.forCall tape i)))
  {bY:List Sh} (hgood:EX C.prog 6 fn.params.toList bY=true) (hread:(fn.params.toList.all fun t=>C.prog.readableRec t&&decide (t<C.prog.types.size))=true)
  {tb:TypeId} (hres:fn.resultTypes= #[tb]) (aqJ:C.prog.underlying tb=some .bool) (hvars:s.vars=[])
  (hspec:∀(ds:List (DataW H)),ds.length=fn.params.size->s.fn H ds= {results:=[.lit (.bool true)],args:=ds})
  (hpc:∀cs,JL bY cs->PC C.prog f (bY.zip cs) [(.bool,.bool true)]):
  ReturnsInHanded {} C os f .any (fun w args=>(s.pre enc C.prog fn conds false w args/\laidMetH C.prog laid w)/\sizedMet enc C.prog fn (OpenSpec.ofChange s) false w args) (s.post enc C.prog fn false true false false):=by
 refine returnsInHanded_of_change_and (X:=fun w _=>laidMetH C.prog laid w) (fun _ _ _ hh h=>h.of_heap hh) own started noInit hfn witness ?_;intro W base args ds gs before hval hW hcnd _ hL _;have hW':=hW;obtain ⟨p,q,hA,hV,rfl,hfz,hnd⟩:=hW;rw[hvars] at hV;obtain ⟨rfl,rfl⟩:=trodVars_none hV;obtain ⟨cs,r1,r2⟩:=aa1 hgood (fun j t v ht hv=>hval j t v (by simpa using ht) (by simpa using hv)) hA;have hlen:=Xa hA;have hcall:=((hpc cs r2).mq hlt).2 W _ args.toList (aL W hL) r1;simp only[Array.toArray_toList] at hcall;refine hcall.mono fun e W' ⟨v,he,hv,bX⟩=>?_;subst he;obtain ⟨vs,hvs,hv⟩:=hv;obtain ⟨u,r,rfl,⟨us,hu,rfl⟩,hr⟩:=hvs;simp only[dH] at hr;subst hr;simp only[Rd] at hu;subst hu;simp[Sh.mk,Sh.isAgg] at hv;subst hv;have hsp:=hspec (ds++ []) (by simpa using hlen);refine ⟨_,rfl,ds,[],_,[],p,[],hW',?_,?_,?_,bX.frame _,fun h=>by cases h⟩
 .rw[hsp,hres];exact trodAll_mk1 (shut_bool aqJ _)
 .rw[hsp];simp only[jl];exact ZN laidOut bX hread hA
 .rw[hsp,hvars];rfl
theorem amJ{P:Program}{f:FuncId}{fn:Func}{s:ChangeSpec}{c:OpenClaim}(k1:c.wf (OpenSpec.ofChange s)=true)(k2:laidOutB P=true)(k3:mapsRowed P=true)(k4:fn.params.all (P.readableRec ·)=true)(k5:namedTie P c.named s.vars=true)
  (k6:((c.stops==[])&&(P.stops==[])&&(c.knobs==[])&&(P.stopKnobs==[]))=true) (k10:(c.inPlace==P.inPlace f)=true) (k11:(c.unfollowed==P.unfollowed f)=true) (k12:(c.recurses==P.recurses f)=true) (k13:(c.named==P.varsNamed f)=true)
  (k14:((c.maps==(fn.params.toList++s.plain.varTypes P).any (P.mapsRec ·))&&(c.ifaces==(fn.params.toList++s.plain.varTypes P).any (P.ifacesRec ·))&&(c.mapsOut==P.mapsAmong fn.resultTypes.toList))=true)
  (k17:((c.loops==(fn.params.toList++s.plain.varTypes P).any (P.loopsFrom ·))&&(c.wideKeys==(fn.params.toList++s.plain.varTypes P++fn.resultTypes.toList).any (P.wideKeysFrom ·)))=true)
  (k18:(s.vars.all (P.varReadable ·)&&fn.resultTypes.all (fun t=>P.readableRec t&&decide (t<P.types.size))&&(c.ifacesOut==fn.resultTypes.toList.any (P.ifacesRec ·))&&(c.loopsOut==fn.resultTypes.toList.any (P.loopsFrom ·)))=true)
  (k22:(c.plainKeys==P.plainKeys)=true) (k23:(c.shortTexts.isNone&&P.stopsHeard)=true) (k24:P.mayEnter=true) (k24b:(c.lifted==P.liftsFinal)=true) (k24c:(P.make==some c.make)=true)
  (k25:((c.kinds==(if c.domain.isEmpty then [] else fn.params.toList.map fun t=>match P.underlying t with|some (.int k)=>some k|_=>none))&&(c.pinned==c.pinnedBy))=true)
  (k27:((c.veiled==(fn.params.toList++s.plain.varTypes P++fn.resultTypes.toList).any (P.veiledRec ·))&&c.veiledFits P fn.params.toList (fn.params.toList++s.plain.varTypes P++fn.resultTypes.toList))=true):joinedFacts P f fn s c=true:=by
 simp only[aP] at k6 k14 k17 k18 k23 k25 k27;simp only[joinedFacts,aP];obtain ⟨⟨⟨k6,k7⟩,k8⟩,k9⟩:=k6;obtain ⟨⟨k14,k15⟩,k16⟩:=k14;obtain ⟨k17,k17b⟩:=k17;obtain ⟨⟨⟨k18,k19⟩,k20⟩,k21⟩:=k18;obtain ⟨k23,k23b⟩:=k23;obtain ⟨k25,k26⟩:=k25;obtain ⟨k27,k28⟩:=k27;exact ⟨⟨⟨⟨⟨⟨⟨⟨⟨⟨⟨⟨⟨⟨⟨⟨⟨⟨⟨⟨⟨⟨⟨⟨⟨⟨⟨⟨⟨⟨⟨k1,k2⟩,k3⟩,k4⟩,k5⟩,k6⟩,k7⟩,k8⟩,k9⟩,k10⟩,k11⟩,k12⟩,k13⟩,k14⟩,k15⟩,k16⟩,k17⟩,k17b⟩,k18⟩,k19⟩,k20⟩,k21⟩,k22⟩,k23⟩,k23b⟩,k24⟩,k24b⟩,k24c⟩,k25⟩,k26⟩,k27⟩,k28⟩
end Go.Vc
