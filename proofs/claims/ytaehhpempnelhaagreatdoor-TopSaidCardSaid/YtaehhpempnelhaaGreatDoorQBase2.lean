/-
  My own general texts, one behind the other: a generator of conditions over the model, with its proof, and plain lemmas. No condition on the program.
-/
import Derived.Test.YtaehhpempnelhaaGreatDoorQBase1
import Derived.Lib.OthersKept
namespace Go.Vc
open Go.RowKit
theorem fA:type_of% @Go.Lib.cell_of_heap:=@Go.Lib.cell_of_heap
theorem iY:type_of% @Go.Lib.frozen_of_heap:=@Go.Lib.frozen_of_heap
theorem iT:type_of% @Go.Lib.alloc_old:=@Go.Lib.alloc_old
def wm:List Sh->Sh
 | []=> .je
 |s::l=> .jc s (wm l)
theorem Us:∀l,(wm l).isAgg=true
 | []=>rfl
 |_::_=>rfl
section
variable{P:Program}{w:World}{B:Nat->Prop}{N:Nat->Prop}{ρ:List C}{bs:List aL}{hv:Nat->Value}
def sW(w:World)(N:Nat->Prop)(ρ:List C):List (Sh×E)->List Value->Prop
 | [],vs=>vs=[]
 |(s,e)::l,vs=>∃u r,vs=u++r/\Rd w N s u (e.eval ρ)/\Exact s e u/\sW w N ρ l r
theorem sW.mono{w':World}{N':Nat->Prop}(hs:w.heap.size<=w'.heap.size)(hk:∀b,N b->b<w.heap.size->w'.heap[b]?=w.heap[b]?/\N' b):∀{l:List (Sh×E)} {vs:List Value},sW w N ρ l vs->sW w' N' ρ l vs
 | [],_,h=>h
 |(_,_)::_,_,⟨u,r,h1,h2,h3,h4⟩=>⟨u,r,h1,h2.mono hs hk,h3,sW.mono hs hk h4⟩
theorem sW.whole:∀{l:List (Sh×E)} {vs:List Value},sW w N ρ l vs->Rd w N (wm (l.map (·.1))) vs ((Iq (l.map (·.2))).eval ρ)/\Exact (wm (l.map (·.1))) (Iq (l.map (·.2))) vs
 | [],_,h=>⟨h,by simp[wm,Exact]⟩
 |(s,e)::l,_,⟨u,r,h1,h2,h3,h4⟩=>by
  obtain⟨h5,h6⟩:=sW.whole h4;refine⟨⟨Us _,u,r,h1,?_,?_⟩,⟨u,r,h1,h2.length,h3,h6⟩⟩
  .simpa [Iq,E.eval,C.hd]using h2
  exact h5.zG (Us _) (by simp[Iq,E.eval,C.tl])
theorem aao:∀{s:Sh}{e:E}{l:List (Sh×E)} {vs:List Value},fieldsOf s e=some l->Rd w N s vs (e.eval ρ)->Exact s e vs->sW w N ρ l vs/\s=wm (l.map (·.1))
 | .je,e,l,vs,h,hr,_=>by
  simp[fieldsOf]at h;subst h;exact⟨hr,rfl⟩
 | .jc a b,e,l,vs,h,hr,hx=>by
  simp[fieldsOf]at h;obtain⟨l',h,rfl⟩:=h;obtain⟨h0,va,vb,rfl,h1,h2⟩:=hr;obtain⟨x1,x2⟩:=Od hx h1.length;obtain⟨h3,h4⟩:=aao h (h2.zG h0 (Nw ρ e).symm) x2;exact⟨⟨va,vb,rfl,by rw[Ny];exact h1,x1,h3⟩,by simp[wm,<-h4]⟩
 | .int _,_,_,_,h,_,_| .bool,_,_,_,h,_,_| .str,_,_,_,h,_,_| .sl _,_,_,_,h,_,_| .dB _ _,_,_,_,h,_,_| .kP,_,_,_,h,_,_| .fH _,_,_,_,h,_,_| .mp _ _,_,_,_,h,_,_=>by simp[fieldsOf]at h
def uS(l:List (Sh×E))(i:Nat):Nat:=((l.take i).map (·.1.size)).sum
theorem sW.set:∀{l:List (Sh×E)} {vs:List Value}{i:Nat}{s:Sh}{e0 e:E}{u:List Value},sW w N ρ l vs->l[i]?=some (s,e0)->Rd w N s u (e.eval ρ)->Exact s e u->
  sW w N ρ (l.set i (s,e)) (vs.take (uS l i)++(u++vs.drop (uS l i+s.size)))/\uS l i+s.size<=vs.length
 | [],_,_,_,_,_,_,_,hi,_,_=>by simp at hi
 |(s0,Qu)::l,vs,0,s,e0,e,u,⟨u0,r,h1,h2,h3,h4⟩,hi,hr,hx=>by
  simp at hi;obtain⟨rfl,rfl⟩:=hi;subst h1;refine⟨⟨u,r,by simp[uS,<-h2.length],hr,hx,h4⟩,by simp[uS,h2.length]⟩
 |(s0,Qu)::l,vs,i+1,s,e0,e,u,⟨u0,r,h1,h2,h3,h4⟩,hi,hr,hx=>by
  subst h1;obtain⟨h5,h6⟩:=sW.set h4 (by simpa using hi) hr hx;have ho:uS ((s0,Qu)::l) (i+1)=u0.length+uS l i:=by simp[uS,h2.length]
  refine⟨⟨u0,r.take (uS l i)++(u++r.drop (uS l i+s.size)),?_,h2,h3,h5⟩,by rw[ho];simp;omega⟩;rw[ho,su,List.take_append,F5];simp;rw[mO (by omega),DZ (by omega)];simp
theorem axW(vs:List Value):∀(us:List Value) (off k:Nat),off+k+us.length<=vs.length->
  ((us.zipIdx k).foldl (fun(cs:Array Value) x=>cs.setIfInBounds (off+x.2) x.1) vs.toArray)=(vs.take (off+k)++(us++vs.drop (off+k+us.length))).toArray:=by
 intro us;induction us generalizing vs with
 |nil=>intro off k _;simp
 |cons u us ih=>
  intro off k h;simp only[List.zipIdx_cons,Ak];have e:vs.toArray.setIfInBounds (off+k) u=(vs.set (off+k) u).toArray:=by simp
  rw[e,ih (vs.set (off+k) u) off (k+1) (by simp at h |-;omega)];have e2:=list_seg_step vs (off+k) u us (by simp at h;omega);congr 1
  simpa[su]using e2
theorem adr:∀{fs:List Field}{s:Sh}{off:Nat}{l:List (Sh×E)} {i:Nat}{sh:Sh}{e:E},Ba P fs s off=true->s=wm (l.map (·.1))->l[i]?=some (sh,e)->
  ∃f,fs[i]?=some f/\f.offset=off+uS l i/\kL P f.type sh=true
 | [],s,off,l,i,sh,e,h,hs,hi=>by
  cases l with
  |nil=>simp at hi
  |cons x l=>rw[hs]at h;simp[Ba,wm]at h
 |f::fs,s,off,l,i,sh,e,h,hs,hi=>by
  cases l with
  |nil=>simp at hi
  |cons x l=>
   rw[hs]at h;simp only[jG,wm,Ba,EO,bB,dQ]at h;obtain⟨⟨h1,h2⟩,h3⟩:=h;cases i with
   |zero=>
    simp at hi;subst hi;exact⟨f,rfl,by simp[uS,h1],h2⟩
   |succ i=>
    obtain⟨f',g1,g2,g3⟩:=adr h3 rfl (by simpa using hi);exact⟨f',by simpa using g1,by rw[g2];simp[uS,su],g3⟩
theorem run_places:∀{fs:List Field}{s:Sh}{off:Nat},Ba P fs s off=true->
  (fs.mapM fun f=>(do pure (f.offset,<-sizeOf f.type):Sem (Nat×Nat))).run P w=.ok (fs.map fun f=>(f.offset,P.cellsOf f.type)) w
 | [],_,_,_=>by simp
 |f::fs,s,off,h=>by
  cases s with
  |jc a b=>
   simp only[Ba,bB]at h;have h1:=run_places h.2;obtain⟨i,d,hi,hs,_,_⟩:=GK (by have:=h.1;simp only[EO,bB]at this;exact this.2);simp only[D7,iB];have h2:(sizeOf f.type).run P w=.ok (P.cellsOf f.type) w:=by simp[sizeOf,typeInfo,hi,Program.cellsOf]
   simp[h2];simp at h1 |-;first|exact h1|(rw[h1];rfl)|skip
  |_=>simp[Ba]at h
theorem fill_step(places:Nat->Option (Nat×Nat))(vs:List Value)(i off size:Nat)(v:Value)(rest:List (Nat×Value))(hp:places i=some (off,size))(hs:v.cells.toList.length=size)(hle:off+size<=vs.length):
  Instr.fill places vs.toArray ((i,v)::rest)=Instr.fill places (vs.take off++(v.cells.toList++vs.drop (off+size))).toArray rest:=by
 have h1:v.cells.size=size:=by simpa using hs
 have h2:¬(vs.length<off+v.cells.size):=by omega
 have hf:=axW vs v.cells.toList off 0 (by rw[hs];omega);rw[Instr.fill,hp];simp only[h1,ne_eq,not_true_eq_false,decide_false,Bool.false_or,ni];rw[zq (by simpa[h1]using h2)];congr 1
 rw[<-Array.foldl_toList];simp only[qE,hs]at hf;simpa using hf
theorem NV{s:Sh}{us:List Value}(hl:us.length=s.size)(h1:∀u∈us,∀cs,u≠.agg cs):(s.mk us).cells.toList=us:=by
 by_cases ha:s.isAgg=true
 .simp[Sh.mk,ha,Value.cells]
 have ha:s.isAgg=false:=by simpa using ha
 have hs:s.size=1:=by cases s<;>simp_all[Sh.isAgg,Sh.size]
 rw[hs]at hl;match us,hl with
 | [u],_=>
  simp only[Sh.mk,ha];have:=h1 u (by simp);cases u<;>simp_all[Value.cells]
theorem Dk:∀{s:Sh}{us:List Value}{c:C},Rd w N s us c->∀u∈us,u.oneCell'=true/\∀cs,u≠.agg cs
 | .int _,_,_,h=>by simp only[Rd]at h;subst h;simp[Value.oneCell']
 | .bool,_,_,h=>by simp only[Rd]at h;subst h;simp[Value.oneCell']
 | .str,_,_,h=>by simp only[Rd]at h;subst h;simp[Value.oneCell']
 | .sl _,_,_,⟨a,cap,h,_⟩=>by subst h;simp[Value.oneCell']
 | .dB _ _,_,_,⟨_,h,_⟩=>by subst h;simp[Value.oneCell']
 | .kP,_,_,h| .fH _,_,_,h=>by simp only[Rd]at h;subst h;simp[Value.oneCell']
 | .mp _ _,_,_,⟨_,_,h,_⟩=>by subst h;simp[Value.oneCell']
 | .je,_,_,h=>by simp only[Rd]at h;subst h;simp
 | .jc _ _,_,_,⟨_,va,vb,h1,h2,h3⟩=>by
  subst h1;intro u hu;rcases zx.1 hu with hu|hu
  .exact Dk h2 u hu
  exact Dk h3 u hu
theorem adh(hrows:rW w B N ρ bs hv){pc:bq}(hp:bF ρ pc){ev:Ev}{a:Act}(hev:∀o t x,ev pc o t=some x->dA w N ρ bs hv x (a.eval o)){ft:Nat->TypeId}{fs:List Field}{s:Sh}(hok:Ba P fs s 0=true):
  ∀{parts:List (Nat×Operand)} {l l':List (Sh×E)} {f:List Nat}{vs:List Value},qj ev (bT bs) pc ft l parts=some (l',f)->s=wm (l.map (·.1))->∀{g:List Nat},sW w (NF N hv g) ρ l vs->
  (∀q∈f,nH bs ρ q)/\s=wm (l'.map (·.1))/\
  ∃vs',Instr.fill (fun i=>(fs.map fun f=>(f.offset,P.cellsOf f.type))[i]?) vs.toArray (parts.map fun x=>(x.1,a.eval x.2))=some vs'.toArray/\sW w (NF N hv (g++f)) ρ l' vs'
 | [],l,l',f,vs,h,hs,g,hr=>by
  simp[qj]at h;obtain⟨rfl,rfl⟩:=h;exact⟨by simp,hs,vs,by simp[Instr.fill],by simpa using hr⟩
 |(i,o)::parts,l,l',f,vs,h,hs,g,hr=>by
  simp only[qj]at h;split at h
  .rename_i sx e fx s' e' hd hl;split at h
   .rename_i hss;subst hss;cases hb:qj ev (bT bs) pc ft (l.set i (sx,e)) parts with
    |none=>simp[hb]at h
    |some y=>
     obtain⟨l2,f2⟩:=y;simp[hb]at h;obtain⟨rfl,rfl⟩:=h;obtain⟨x,hx1,hx2⟩:=vV.1 hd;have hdat:=AU hrows hp hx2 (hev o _ x hx1);obtain⟨us,d1,d2,d3⟩:=hdat;have m1:∀b,NF N hv g b->b<w.heap.size->w.heap[b]?=w.heap[b]?/\NF N hv (g++fx) b:=fun b hb _=>⟨rfl,OM hb⟩;have m2:∀b,NF N hv fx b->b<w.heap.size->w.heap[b]?=w.heap[b]?/\NF N hv (g++fx) b:=fun b hb _=>⟨rfl,Oc hb⟩;obtain⟨k1,k2⟩:=(hr.mono (aS _) m1).set hl (d1.mono (aS _) m2) d3;obtain⟨fl,q1,q2,q3⟩:=adr hok hs hl;have hs2:s=wm ((l.set i (sx,e)).map (·.1)):=by
      rw[hs];congr 1
      apply Ja;intro j;simp only[ow,Jc];by_cases hij:i=j
      .subst hij;rw[aC rfl,hl];rw[aC (zy.1 hl).1];rfl
      .rw[zq hij]
     obtain⟨r1,r2,vs',r3,r4⟩:=adh hrows hp hev hok hb hs2 k1;have hcells:(a.eval o).cells.toList=us:=by rw[d2];exact NV d1.length fun u hu=>(Dk d1 u hu).2
     obtain⟨ii,dd,hi1,hi2,_,_⟩:=GK q3;refine⟨?_,r2,vs',?_,by rw[<-gJ];exact r4⟩
     .intro q hq;rcases zx.1 hq with hq|hq
      .exact EA hp hx2 q hq
      .exact r1 q hq
     simp only[jG];rw[fill_step _ vs i (uS l i) sx.size (a.eval o) _ ?_ (by rw[hcells,d1.length]) k2]
     .rw[hcells];exact r3
     simp only[ow,q1,yL];rw[q2,kD];simp[Program.cellsOf,hi1,hi2]
   .simp at h
  simp at h
theorem JL{t:TypeId}{s:Sh}{e:E}(h:zeroE P t s=some e):∃i v,P.info? t=some i/\i.zero=some v/\Rd w N s v.cells.toList (e.eval ρ)/\Exact s e v.cells.toList:=by
 unfold zeroE at h;split at h
 .rename_i v hz;obtain⟨i,hi,hz⟩:=vV.1 hz;split at h
  next e' hu=>simp at h;subst h;obtain⟨us,h1,h2,h3⟩:=Q0 (w:=w) (N:=N) (ρ:=ρ) hu;simp at h1;rw[<-h1]at h2 h3;exact⟨i,v,hi,hz,by simpa using h2,by simpa using h3⟩
  .simp at h
 simp at h
theorem afI{pl Ww:Nat->Option (Nat×Nat)}(hpl:∀i x,pl i=some x->Ww i=some x):∀{parts:List (Nat×Value)} {cs r:Array Value},Instr.fill pl cs parts=some r->Instr.fill Ww cs parts=some r
 | [],_,_,h=>by simpa[Instr.fill]using h
 |(i,v)::rest,cs,r,h=>by
  rw[Instr.fill]at h |-;cases hi:pl i with
  |none=>simp[hi]at h
  |some x=>
   rw[hpl i x hi];rw[hi]at h;simp only at h |-;split at h
   .cases h
   next hc=>rw[zq hc];exact afI hpl h
theorem arW(hrows:rW w B N ρ bs hv){pc:bq}(hp:bF ρ pc){ev:Ev}{a:Act}(hev:∀o t x,ev pc o t=some x->dA w N ρ bs hv x (a.eval o)){t:TypeId}{parts:List (Nat×Operand)}{out:Out}
  (h:ET P ev (bT bs) pc t parts=some out):
  ∃f,out.jq=f.map .bM/\(∀q∈f,nH bs ρ q)/\out.nv=0/\out.ji=[]/\
   ∃u,(Instr.build t (parts.toArray.map fun x=>(x.1,a.eval x.2))).run P w=.ok u w/\dA w (NF N hv f) ρ bs hv out.x u:=by
 unfold ET at h;split at h
 .rename_i s fs hsh hu;split at h
  .rename_i hok;simp only[bB]at hok;split at h
   .rename_i l hl;split at h
    .rename_i l2 f hb;simp at h;subst h;obtain⟨e,he,hfl⟩:=vV.1 hl;obtain⟨i,v,hi,hz,hr,hx⟩:=JL (w:=w) (N:=NF N hv []) (ρ:=ρ) he;obtain⟨h1,h2⟩:=aao hfl hr hx;obtain⟨r1,r2,vs',r3,r4⟩:=adh hrows hp hev hok.1 hb h2 h1;obtain⟨g1,g2⟩:=r4.whole;rw[<-r2]at g1 g2;have hag:s.isAgg=true:=by rw[h2];exact Us _
     refine⟨f,rfl,r1,rfl,rfl,.agg vs'.toArray,?_,vs',g1,by simp[Sh.mk,hag],g2⟩;unfold ahP at hu;split at hu
     next fl hun=>obtain⟨fl⟩:=fl;simp only[dP]at hu;subst hu;have hpl:=run_places (P:=P) (w:=w) hok.1;simp at hpl;simp only[Array.toArray_toList]at r3;simp[Instr.build,zeroValue,typeInfo,hi,hz,dR hun];rw[hpl];simp only[ow]at r3;simp[r3]
     .rename_i n et hun;split at hu
      .rename_i hie;simp only[dP]at hu;subst hu;obtain⟨ie,hie⟩:=o9.1 hie;simp only[Array.toArray_toList]at r3;have r3:=afI (Ww:=fun i=>some (i*ie.size,ie.size)) (fun i x hx=>by
        simp only[vW,ow]at hx;obtain⟨y,hy,rfl⟩:=Aj.1 hx;obtain⟨_,rfl⟩:=zy.1 hy;simp[Program.cellsOf,hie]) r3
       simp[Instr.build,zeroValue,sizeOf,typeInfo,hi,hz,hie,dR hun,r3]
      .cases hu
     cases hu
    .simp at h
   simp at h
  .simp at h
 simp at h
theorem auX(vs us xs:List Value)(k n m:Nat)(hl:us.length=n)(h:k+n+m<=vs.length):
  (vs.take k++(us++vs.drop (k+n))).take (k+n)++(xs++(vs.take k++(us++vs.drop (k+n))).drop (k+n+m))=vs.take k++((us++xs)++vs.drop (k+n+m)):=by
 have hX:(vs.take k++us).length=k+n:=by simp[hl];omega
 rw[<-gJ (vs.take k) us,List.take_left' hX,F5,DZ (by omega),hX];simp only[iw,xq,gJ];congr 4
 omega
theorem Rz(hrows:rW w B N ρ bs hv){pc:bq}(hp:bF ρ pc){ev:Ev}{a:Act}(hev:∀o t x,ev pc o t=some x->dA w N ρ bs hv x (a.eval o)){t:TypeId}{s:Sh}:
  ∀{parts:List (Nat×Operand)} {k:Nat}{e:E}{f:List Nat},qM ev (bT bs) pc t s k parts=some (e,f)->
  (∀q∈f,nH bs ρ q)/\(e.eval ρ).toList.length=parts.length/\
  ∃xs,cZ w (NF N hv f) s xs (e.eval ρ).toList/\
   ∀(vs:List Value),k*s.size+parts.length*s.size<=vs.length->
    Instr.fill (fun i=>some (i*s.size,s.size)) vs.toArray (parts.map fun x=>(x.1,a.eval x.2))=some (vs.take (k*s.size)++(xs++vs.drop (k*s.size+parts.length*s.size))).toArray
 | [],k,e,f,h=>by
  simp[qM]at h;obtain⟨rfl,rfl⟩:=h;exact⟨by simp,by simp[E.eval],[],by simp[E.eval,cZ],fun vs _=>by simp[Instr.fill]⟩
 |(i,o)::parts,k,e,f,h=>by
  simp only[qM]at h;split at h
  .simp at h
  .rename_i hik;simp only[ne_eq,Jj]at hik;subst hik;split at h
   .rename_i s' ex fx es g hd hb;split at h
    .rename_i hss;subst hss;simp at h;obtain⟨rfl,rfl⟩:=h;obtain⟨x,hx1,hx2⟩:=vV.1 hd;obtain⟨us,d1,d2,d3⟩:=AU hrows hp hx2 (hev o _ x hx1);obtain⟨r1,r2,xs,r3,r4⟩:=Rz hrows hp hev hb;have m1:∀b,NF N hv fx b->b<w.heap.size->w.heap[b]?=w.heap[b]?/\NF N hv (fx++g) b:=fun b hb _=>⟨rfl,OM hb⟩;have m2:∀b,NF N hv g b->b<w.heap.size->w.heap[b]?=w.heap[b]?/\NF N hv (fx++g) b:=fun b hb _=>⟨rfl,Oc hb⟩;have hcells:(a.eval o).cells.toList=us:=by rw[d2];exact NV d1.length fun u hu=>(Dk d1 u hu).2
     refine⟨?_,by simp[E.eval,r2],us++xs,?_,fun vs hvs=>?_⟩
     .intro q hq;rcases zx.1 hq with hq|hq
      .exact EA hp hx2 q hq
      exact r1 q hq
     .simp only[E.eval,C.lF];exact⟨us,xs,rfl,d1.mono (aS _) m1,r3.mono (aS _) m2⟩
     simp only[bR,pq,Ay]at hvs;simp only[jG];have hl:us.length=s.size:=d1.length;rw[fill_step _ vs i (i*s.size) s.size (a.eval o) _ rfl (by rw[hcells,hl]) (by omega),hcells];have hlen:(vs.take (i*s.size)++(us++vs.drop (i*s.size+s.size))).length=vs.length:=by simp[hl];omega
     rw[r4 _ (by rw[hlen,pq,Ay];omega)];have e1:=auX vs us xs (i*s.size) s.size (parts.length*s.size) hl (by omega);simp only[bR,pq,Ay]at e1 |-;rw[e1,show i*s.size+(parts.length*s.size+s.size)=i*s.size+s.size+parts.length*s.size by omega]
    .simp at h
   simp at h
theorem aaH{t et:TypeId}{s:Sh}{len:Nat}{parts:List (Nat×Value)}(ht:P.underlying t=some (.slice et))(hf:kL P et s=true)(hz:((P.info? et).bind (·.zero)).isSome=true)(hlen:len*s.size<=2^24)
  {xs:List Value}(hl:xs.length=len*s.size) (aBv:∀vs:List Value,len*s.size<=vs.length->Instr.fill (fun i=>some (i*s.size,s.size)) vs.toArray parts=some (xs++vs.drop (len*s.size)).toArray):
  (Instr.buildSlice t len parts.toArray).run P w=.ok (.slice (some ⟨w.heap.size,0,none⟩) len len) (w.alloc (.cells xs.toArray et)):=by
 obtain⟨z,hz⟩:=o9.1 hz;obtain⟨i,hi,hz⟩:=vV.1 hz;have hsz:(sizeOf et).run P w=.ok s.size w:=run_sizeOf hf;have hn:¬(2^24<len*s.size):=by omega
 have hfl:=aBv ((List.range (len*s.size)).map fun j=>z.cells[j%z.cells.size]!) (by simp);have hd:((List.range (len*s.size)).map fun j=>z.cells[j%z.cells.size]!).drop (len*s.size)=[]:=DZ (by simp);rw[hd,lV]at hfl;by_cases h0:len*s.size=0
 .have hx:xs=[]:=oC (by omega);subst hx;simp[h0]at hfl;simp[Instr.buildSlice,dR ht,hsz,h0,newRow,hfl,Array.range_zero']
 have hzv:(zeroValue et).run P w=.ok z w:=by simp[zeroValue,typeInfo,hi,hz]
 have harr:(Array.range (len*s.size)).map (fun j=>z.cells[j%z.cells.size]!)=((List.range (len*s.size)).map fun j=>z.cells[j%z.cells.size]!).toArray:=by
  apply xC;simp[Array.toList_range]
 simp[Instr.buildSlice,dR ht,hsz,hn,h0,hzv,newRow];rw[harr,hfl];simp
theorem asV{ev:Ev}{rb:Rb}{pc:bq}{t:TypeId}{s:Sh}{k:Nat}{parts:List (Nat×Operand)}{e:E}{f:List Nat}(h:qM ev rb pc t s k parts=some (e,f))(vs:List Value):Exact (.sl s) e vs:=by
 cases parts with
 |nil=>simp[qM]at h;obtain⟨rfl,_⟩:=h;simp[Exact]
 |cons x l=>
  simp only[qM]at h;split at h
  .simp at h
  split at h
  .split at h
   .simp at h;obtain⟨rfl,_⟩:=h;simp[Exact]
   .simp at h
  simp at h
theorem aqt(hrows:rW w B N ρ bs hv){pc:bq}(hp:bF ρ pc){ev:Ev}{a:Act}(hev:∀o t x,ev pc o t=some x->dA w N ρ bs hv x (a.eval o)){t:TypeId}{len:Nat}{parts:List (Nat×Operand)}{out:Out}
  (h:EG P ev (bT bs) pc t len parts=some out) (hN:∀b,w.heap.size<=b->N b):
  ∃f,out.jq=f.map .bM/\(∀q∈f,nH bs ρ q)/\out.nv=0/\out.ji=[]/\
   ∃u w',(Instr.buildSlice t len (parts.toArray.map fun x=>(x.1,a.eval x.2))).run P w=.ok u w'/\Below w.heap.size w w'/\dA w' (NF N hv f) ρ bs hv out.x u:=by
 unfold EG at h;split at h
 .simp at h
 .rename_i et ht;split at h
  .simp at h
  .rename_i s hs;split at h
   .rename_i hok;simp only[bB,dQ]at hok;obtain⟨⟨⟨⟨hf,hs0⟩,hpl⟩,hlen⟩,hz⟩:=hok;have hs0:0<s.size:=by simp at hs0;omega
    split at h
    .rename_i e f hb;simp at h;subst h;obtain⟨r1,r2,xs,r3,r4⟩:=Rz hrows hp hev hb;subst hpl;have hl:xs.length=parts.length*s.size:=by rw[r3.length,r2]
     have hrun:=aaH (P:=P) (w:=w) (parts:=parts.map fun x=>(x.1,a.eval x.2)) (AY ht) hf hz hlen hl fun vs hvs=>by
      have:=r4 vs (by omega);simpa using this
     have hbel:Below w.heap.size w (w.alloc (.cells xs.toArray et)):=(eD _ _).alloc (aS _) _;refine⟨f,rfl,r1,rfl,rfl,_,_,by simpa using hrun,hbel,[.slice (some ⟨w.heap.size,0,none⟩) parts.length parts.length],⟨_,_,by rw[r2],by omega,?_,fun _=>⟨w.heap.size,0,rfl,.inl (hN _ (aS _)),by simp,?_⟩⟩,by simp[Sh.mk,Sh.isAgg],?_⟩
     .simp only[maxLen];have:parts.length<=parts.length*s.size:=Nat.le_mul_of_pos_right _ hs0;omega
     .refine wT.of_row (r3.mono (by simp) fun b hb hlt=>⟨hbel.block b hlt,hb⟩) fun j u hu=>?_;rw[World.cell?_alloc_at _ _ _ _ rfl];simpa using hu
     exact asV hb _
    .simp at h
   simp at h
theorem JR:∀{s:Sh}{e:E}{vs:List Value},Rd w N s vs (e.eval ρ)->Exact s e vs->gV w N ρ bs hv (flat s e) vs
 | .int k,e,vs,h,hx=>by
  simp only[Rd]at h;subst h;exact⟨_,[],rfl,by rw[jB],rfl⟩
 | .bool,e,vs,h,hx=>by
  simp only[Rd]at h;subst h;exact⟨_,[],rfl,by rw[nD],rfl⟩
 | .str,e,vs,h,hx=>by
  simp only[Rd]at h;subst h;exact⟨_,[],rfl,by rw[uD],rfl⟩
 | .sl s,e,vs,h,hx=>by
  obtain⟨a,cap,h1,h2⟩:=id h;subst h1;exact⟨_,[],rfl,⟨_,h,by simp[Sh.mk,Sh.isAgg],hx⟩,rfl⟩
 | .dB _ _,e,vs,h,hx=>by
  obtain⟨a,h1,h2⟩:=id h;subst h1;exact⟨_,[],rfl,⟨_,h,by simp[Sh.mk,Sh.isAgg],hx⟩,rfl⟩
 | .kP,e,vs,h,hx=>by
  have h1:=h;simp only[Rd]at h1;subst h1;exact⟨_,[],rfl,⟨_,h,by simp[Sh.mk,Sh.isAgg],hx⟩,rfl⟩
 | .fH _,e,vs,h,hx=>by
  have h1:=h;simp only[Rd]at h1;subst h1;exact⟨_,[],rfl,⟨_,h,by simp[Sh.mk,Sh.isAgg],hx⟩,rfl⟩
 | .mp _ _,e,vs,h,hx=>by
  obtain⟨a,l,h1,h2⟩:=id h;subst h1;exact⟨_,[],rfl,⟨_,h,by simp[Sh.mk,Sh.isAgg],hx⟩,rfl⟩
 | .je,e,vs,h,hx=>h
 | .jc a b,e,vs,h,hx=>by
  obtain⟨h0,va,vb,rfl,h1,h2⟩:=h;obtain⟨x1,x2⟩:=Od hx h1.length;have g1:=JR (e:=Ab e) (by rw[Ny];exact h1) x1;have g2:=JR (e:=Aa e) (h2.zG h0 (Nw ρ e).symm) x2;simp only[flat];exact ad6 g1 g2
where
 ad6:∀{l m:List SX}{us vs:List Value},gV w N ρ bs hv l us->gV w N ρ bs hv m vs->gV w N ρ bs hv (l++m) (us++vs)
  | [],_,_,_,h,h'=>by simp only[gV]at h;subst h;simpa using h'
  |_::_,_,_,_,⟨v,r,h1,h2,h3⟩,h'=>⟨v,r++_,by rw[h1];rfl,h2,ad6 h3 h'⟩
end
theorem Uv{P:Program}{N0:Nat->Prop}{w0:Wb}{ρ:List C}{S:SS}{hv:Nat->Value}{a:Act}{w:World}(h:aZ P N0 w0 ρ S hv a w){d:Nat}(hd:jU S.rb d=true){s:Sh}{cs:List SX}{vs:List Value}{t:TypeId}(pc:bq)
  (hcs:gV w (NN N0 w0.own ρ S.jd hv) ρ S.jd hv cs vs):
  ∃hv',aZ P N0 w0 ρ {S with jd:=S.jd.set d ⟨.box cs,false,pc⟩} hv' a (w.alloc (.cells vs.toArray t))/\
   dA (w.alloc (.cells vs.toArray t)) (NN N0 w0.own ρ (S.jd.set d ⟨.box cs,false,pc⟩) hv') ρ (S.jd.set d ⟨.box cs,false,pc⟩) hv' (.ref d (.int 0) 0 s none) (.pointer (some ⟨w.heap.size,0,none⟩)):=by
 have hdn:=J7 hd;have hbel:Below w.heap.size w (w.alloc (.cells vs.toArray t)):=(eD _ _).alloc (aS _) _;have hdl:d<S.jd.length:=by obtain⟨k,hk,_⟩:=hdn;exact(zy.1 hk).1
 refine⟨upd hv d (.pointer (some ⟨w.heap.size,0,none⟩)),?_,⟨⟨.box cs,false,pc⟩,by simp[hdl],by simp⟩,fun es e p hin _=>?_,fun cs' p hin _=>⟨w.heap.size,by simp[upd,dI],rfl⟩⟩
 .refine (h.new hdn (.box cs) pc (.pointer (some ⟨w.heap.size,0,none⟩)) hbel (fun g hg=>by simp[dI]at hg;omega) fun _=>?_).1;refine⟨w.heap.size,t,vs.toArray,by simp[upd],.inl h.below.size,xB w _,?_⟩;have hk:∀b,NN N0 w0.own ρ S.jd hv b->b<w.heap.size->(w.alloc (.cells vs.toArray t)).heap[b]?=w.heap[b]?/\NN N0 w0.own ρ (S.jd.set d ⟨.box cs,false,pc⟩) (upd hv d (.pointer (some ⟨w.heap.size,0,none⟩))) b:=by
   intro b hb hlt;refine⟨hbel.block b hlt,hb.1,fun r k hr hl hf hp=>?_⟩;by_cases hrd:r=d
   .subst hrd;simp only[upd,eO,dI,ne_eq,dP];omega
   .rw[fZ (fun e=>hrd e.symm)]at hr;simp only[upd,zq hrd];exact hb.2 r k hr hl hf hp
  simpa using hcs.le (by simp) hk (aiZ ρ hdn _ hv _)
 simp[eu,hdl]at hin
theorem new_row{P:Program}{N0:Nat->Prop}{w0:Wb}{ρ:List C}{S:SS}{hv:Nat->Value}{a:Act}{w:World}(h:aZ P N0 w0 ρ S hv a w){d:Nat}(hd:jU S.rb d=true){s:Sh}{e:E}{xs rest:List Value}{t:TypeId}(pc:bq){cap:Nat}
  (hrow:cZ w (NN N0 w0.own ρ S.jd hv) s xs (e.eval ρ).toList) (hsz:0<s.size) (hcap:(xs++rest).length=cap*s.size) (hcm:cap<=maxLen) (n:E) (hn:(n.eval ρ).toInt=((e.eval ρ).toList.length:Int)):
  ∃hv',aZ P N0 w0 ρ {S with jd:=S.jd.set d ⟨.row s e,false,pc⟩} hv' a (w.alloc (.cells (xs++rest).toArray t))/\
   dA (w.alloc (.cells (xs++rest).toArray t)) (NN N0 w0.own ρ (S.jd.set d ⟨.row s e,false,pc⟩) hv') ρ (S.jd.set d ⟨.row s e,false,pc⟩) hv' (.full d n) (.slice (some ⟨w.heap.size,0,none⟩) (e.eval ρ).toList.length cap):=by
 have hdn:=J7 hd;have hbel:Below w.heap.size w (w.alloc (.cells (xs++rest).toArray t)):=(eD _ _).alloc (aS _) _;have hdl:d<S.jd.length:=by obtain⟨k,hk,_⟩:=hdn;exact(zy.1 hk).1
 have hl:=hrow.length;refine⟨upd hv d (.slice (some ⟨w.heap.size,0,none⟩) (e.eval ρ).toList.length cap),?_,⟨⟨.row s e,false,pc⟩,by simp[hdl],by simp⟩,fun s' e' p hin _=>?_⟩
 .refine (h.new hdn (.row s e) pc (.slice (some ⟨w.heap.size,0,none⟩) (e.eval ρ).toList.length cap) hbel (fun g hg=>by simp[dI]at hg;omega) fun _=>?_).1;have hk:∀b,NN N0 w0.own ρ S.jd hv b->b<w.heap.size->(w.alloc (.cells (xs++rest).toArray t)).heap[b]?=w.heap[b]?/\NN N0 w0.own ρ (S.jd.set d ⟨.row s e,false,pc⟩) (upd hv d (.slice (some ⟨w.heap.size,0,none⟩) (e.eval ρ).toList.length cap)) b:=by
   intro b hb hlt;refine⟨hbel.block b hlt,hb.1,fun r k hr hl hf hp=>?_⟩;by_cases hrd:r=d
   .subst hrd;simp only[upd,eO,dI,ne_eq,dP];omega
   .rw[fZ (fun e=>hrd e.symm)]at hr;simp only[upd,zq hrd];exact hb.2 r k hr hl hf hp
  refine⟨t,xs,⟨hl,.inr ⟨w.heap.size,cap,(xs++rest).toArray,by simp[upd],.inl h.below.size,xB w _,?_,hcm,by simpa using hcap,by rw[<-hl];simp⟩⟩,hrow.mono (by simp) hk,hsz⟩;have h1:(e.eval ρ).toList.length*s.size<=cap*s.size:=by rw[<-hl,<-hcap];simp
  exact Nat.le_of_mul_le_mul_right h1 hsz
 simp[eu,hdl]at hin;obtain⟨rfl,rfl,rfl⟩:=hin;exact⟨by simp[upd],hn⟩
section
variable{P:Program}{w:World}{N:Nat->Prop}
def OC(d:Nat)(xs ys:Array Value)(f:Field):Sem (ForInStep (Option Bool×Unit)):=
 if f.name= "_" then pure (ForInStep.yield (none,()))
 else do
  let a <-part f.type xs f.offset
  let b <-part f.type ys f.offset
  let q <-Op.equalIn d f.type a b
  if q=false then pure (ForInStep.done (some false,()))else pure (ForInStep.yield (none,()))
theorem ajC{R:TypeId->Sh->Bool}{d:Nat}(ih:∀t s us vs c c',R t s=true->Rd w N s us c->Rd w N s vs c'->(Op.equalIn d t (s.mk us) (s.mk vs)).run P w=.ok (oN s c c') w):
  ∀(fs:List Field) (s:Sh) (off:Nat) (pre pre' us vs:List Value) (c c':C),eqFields P R fs s off=true->pre.length=off->pre'.length=off->Rd w N s us c->Rd w N s vs c'->
  (forIn fs ((none,()):Option Bool×Unit) fun f _=>OC d (pre++us).toArray (pre'++vs).toArray f).run P w=.ok (if oN s c c' then(none,())else(some false,())) w
 | [],s,off,pre,pre',us,vs,c,c',h,_,_,_,_=>by
  cases s<;>simp[eqFields]at h;simp[oN]
 |f::fs,s,off,pre,pre',us,vs,c,c',h,hp,hp',hu,hv=>by
  cases s with
  |jc a b=>
   simp only[eqFields,bB,EO,dQ]at h;obtain⟨⟨⟨⟨h1,h2⟩,h3⟩,h4⟩,h5⟩:=h;obtain⟨_,ua,ub,rfl,Qr,hub⟩:=hu;obtain⟨_,va,vb,rfl,hva,hvb⟩:=hv;have hn:¬f.name= "_" :=by simpa using h3
   have p1:(part f.type (pre++(ua++ub)).toArray f.offset).run P w=.ok (a.mk ua) w:=TB h2 (by rw[h1,<-hp];simp[<-Qr.length]) Qr.length;have p2:(part f.type (pre'++(va++vb)).toArray f.offset).run P w=.ok (a.mk va) w:=TB h2 (by rw[h1,<-hp'];simp[<-hva.length]) hva.length;have p3:=ih f.type a ua va c.hd c'.hd h4 Qr hva;have hr:=ajC ih fs b (off+a.size) (pre++ua) (pre'++va) ub vb c.tl c'.tl h5 (by simp[hp,Qr.length]) (by simp[hp',hva.length]) hub hvb;rw[List.forIn_cons,iB];have aAz:(OC d (pre++(ua++ub)).toArray (pre'++(va++vb)).toArray f).run P w=.ok (if oN a c.hd c'.hd then ForInStep.yield (none,())else ForInStep.done (some false,())) w:=by
    unfold OC;rw[zq hn];simp only[iB,p1,p2,p3,sG];cases oN a c.hd c'.hd<;>simp
   rw[aAz];simp only[sG];cases hq:oN a c.hd c'.hd with
   |false=>simp[oN,hq]
   |true=>
    simp only[oN,hq,Bool.true_and,eO];simp only[gJ]at hr;exact hr
  |_=>simp[eqFields]at h
theorem asU{R:TypeId->Sh->Bool}{fs:List Field}{s:Sh}{off:Nat}(h:eqFields P R fs s off=true):s.isAgg=true:=by
 cases fs<;>cases s<;>simp[eqFields,Sh.isAgg]at h |-
theorem arT:∀(n:Nat) (t:TypeId) (s:Sh) (us vs:List Value) (c c':C),IW P n t s=true->Rd w N s us c->Rd w N s vs c'->∀d,n<=d->(Op.equalIn d t (s.mk us) (s.mk vs)).run P w=.ok (oN s c c') w:=by
 intro n;induction n with
 |zero=>intro t s us vs c c' h;simp[IW]at h
 |succ n ih=>
  intro t s us vs c c' h hu hv d hd;obtain⟨d,rfl⟩:∃d',d=d'+1:=⟨d-1,by omega⟩;unfold IW at h;split at h
  next ht=>simp only[Rd]at hu hv;subst hu hv;simp[Op.equalIn,dR ht,Sh.mk,Sh.isAgg,oN]
  next k k' ht=>simp only[dQ]at h;subst h;simp only[Rd]at hu hv;subst hu hv;simp[Op.equalIn,dR ht,Sh.mk,Sh.isAgg,oN]
  .rename_i ht;simp only[Rd]at hu hv;subst hu hv;have hb:∀x y:List UInt8,((⟨x.toArray⟩:ByteArray)==⟨y.toArray⟩)=(x==y):=by
    intro x y;show(x.toArray==y.toArray)=_;simp
   simp[Op.equalIn,dR ht,Sh.mk,Sh.isAgg,oN,hb]
  next s _ _ fs ht=>simp only[bB,zl]at h;obtain⟨hst,hf⟩:=h;have hag:=asU hf;have hl:=ajC (P:=P) (w:=w) (N:=N) (R:=IW P n) (d:=d) (fun t s us vs c c' h1 h2 h3=>ih t s us vs c c' h1 h2 h3 d (by omega)) fs.toList s 0 [] [] us vs c c' hf rfl rfl hu hv;obtain⟨fl⟩:=fs;simp only[iw]at hl;unfold OC at hl;rw[Op.equalIn];simp only[Sh.mk,hag,eO];simp[dR ht,hst];rw[hl];cases oN s c c'<;>simp
  cases h
variable{ρ:List C}{bs:List aL}{hv:Nat->Value}
theorem ayi{raw:Bool}{pc:bq}{op:BinOp}{xt:TypeId}{s s':Sh}{ex ey:E}{out:Out}{vx vy:Value}{ox oy:Operand}
  (h:BS P raw pc op xt s ex s' ey=some out) (hagg:s.isAgg=true)
  (hx:dA w N ρ bs hv (.jo s ex) vx) (hy:dA w N ρ bs hv (.jo s' ey) vy):
  out.jq=[]/\out.nv=0/\o7 P w N ρ bs hv (do eqGuard op xt ox oy vx vy;binOp op xt vx vy) out.x:=by
 unfold BS at h;split at h
 .cases hagg
 .cases hagg
 .cases hagg
 .cases hagg
 split at h
 .rename_i hok;simp only[bB,dQ,zl]at hok;obtain⟨⟨⟨rfl,_⟩,heq⟩,hg⟩:=hok;obtain⟨us,h1,h2,_⟩:=hx;obtain⟨vs,h3,h4,_⟩:=hy;have he:=arT (P:=P) (w:=w) 5 xt s us vs _ _ heq h1 h3 10000 (by omega);have hgd:∀op,(eqGuard op xt ox oy vx vy).run P w=.ok () w:=by
   intro op;rw[h2,h4];simp only[Sh.mk,hagg,eO];cases op<;>simp[eqGuard,hg]
  have hbx:vx=.agg us.toArray:=by rw[h2];simp[Sh.mk,hagg]
  have hby:vy=.agg vs.toArray:=by rw[h4];simp[Sh.mk,hagg]
  rw[<-h2,<-h4]at he;split at h
  .simp at h;subst h;refine⟨rfl,rfl,.bool (oN s (ex.eval ρ) (ey.eval ρ)),?_,by rw[nD];rfl⟩;have hb:(binOp .eql xt vx vy).run P w=.ok (.bool (oN s (ex.eval ρ) (ey.eval ρ))) w:=by
    rw[hbx,hby]at he |-;simp only[binOp];simp[Op.equal,Op.maxDepth,he]
   simp[hgd,hb]
  .simp at h;subst h;refine⟨rfl,rfl,.bool (!oN s (ex.eval ρ) (ey.eval ρ)),?_,by rw[nD];rfl⟩;have hb:(binOp .neq xt vx vy).run P w=.ok (.bool (!oN s (ex.eval ρ) (ey.eval ρ))) w:=by
    rw[hbx,hby]at he |-;simp only[binOp];simp[Op.equal,Op.maxDepth,he]
   simp[hgd,hb]
  .simp at h
 simp at h
end
section
variable{P:Program}{w:World}{B:Nat->Prop}{N:Nat->Prop}{ρ:List C}{bs:List aL}{hv:Nat->Value}
theorem GA(hrows:rW w B N ρ bs hv){pc:bq}(hp:bF ρ pc){ev:Ev}{a:Act}(hev:∀o t x,ev pc o t=some x->dA w N ρ bs hv x (a.eval o)):
  ∀{os:List Operand}{ts:List TypeId}{l:List (Sh×E)} {f:List Nat},pK ev (bT bs) pc os ts=some (l,f)->
  (∀q∈f,nH bs ρ q)/\fI w (NF N hv f) (gB ρ l) (os.map a.eval)
 | [],ts,l,f,h=>by
  simp[pK]at h;obtain⟨rfl,rfl⟩:=h;exact⟨by simp,rfl⟩
 |o::os,ts,l,f,h=>by
  simp only[pK]at h;split at h
  .rename_i s e fx l' g hd hb;simp at h;obtain⟨rfl,rfl⟩:=h;obtain⟨x,hx1,hx2⟩:=vV.1 hd;have d:=Hr (AU hrows hp hx2 (hev o _ x hx1));obtain⟨r1,r2⟩:=GA hrows hp hev hb;have m1:∀b,NF N hv fx b->b<w.heap.size->w.heap[b]?=w.heap[b]?/\NF N hv (fx++g) b:=fun b hb _=>⟨rfl,OM hb⟩;have m2:∀b,NF N hv g b->b<w.heap.size->w.heap[b]?=w.heap[b]?/\NF N hv (fx++g) b:=fun b hb _=>⟨rfl,Oc hb⟩;refine⟨?_,_,_,rfl,d.mono (aS _) m1,r2.mono (aS _) m2⟩;intro q hq;rcases zx.1 hq with hq|hq
   .exact EA hp hx2 q hq
   .exact r1 q hq
  simp at h
theorem OL{w':World}{N':Nat->Prop}:∀{s:Sh}{vs:List Value}{c:C},s.iQ=true->Rd w N s vs c->Rd w' N' s vs c
 | .int _,_,_,_,h| .bool,_,_,_,h| .str,_,_,_,h| .je,_,_,_,h=>h
 | .sl _,_,_,hp,_=>by cases hp
 | .mp _ _,_,_,hp,_=>by cases hp
 | .dB _ _,_,_,hp,_=>by cases hp
 | .kP,_,_,_,h| .fH _,_,_,_,h=>h
 | .jc a b,_,_,hp,⟨h0,va,vb,h1,h2,h3⟩=>by
  simp only[Sh.iQ,bB]at hp;exact⟨h0,va,vb,h1,OL hp.1 h2,OL hp.2 h3⟩
theorem NG{w':World}{N':Nat->Prop}:∀{l:List (Sh×C)} {vs:List Value},(∀x∈l,x.1.iQ=true)->fI w N l vs->fI w' N' l vs
 | [],_,_,h=>h
 |(s,c)::l,_,hp,⟨v,r,h1,⟨us,h2,h3⟩,h4⟩=>⟨v,r,h1,⟨us,OL (hp (s,c) (by simp)) h2,h3⟩,NG (fun x hx=>hp x (by simp[hx])) h4⟩
theorem M9:∀{l:List (Sh×C)} {vs:List Value},fI w N l vs->vs.length=l.length
 | [],_,h=>by simp only[fI]at h;subst h;rfl
 |(_,_)::_,_,⟨v,r,h1,_,h4⟩=>by subst h1;simp[M9 h4]
theorem Gt:∀(aK:List Sh) (nv:Nat),nv+aK.length<=ρ.length->gB ρ (jZ nv aK)=aK.zip ((ρ.drop nv).take aK.length)
 | [],nv,_=>rfl
 |s::aK,nv,h=>by
  simp only[bR]at h;have hlt:nv<ρ.length:=by omega
  have ih:=Gt aK (nv+1) (by omega);simp only[jZ,gB,jG,bR]at ih |-;rw[D6 hlt,Cb,List.zip_cons_cons,<-ih];simp[E.eval,List.getD,hlt]
theorem aes{l:List (Sh×E)}{v:Value}(hl:∀x∈l,∀vs,Exact x.1 x.2 vs)(h:PN w N (gB ρ l) v):dA w N ρ bs hv (IE l) v:=by
 obtain⟨vs,h1,h2⟩:=h;have hlen:=M9 h1;unfold IE;split
 next s e=>obtain⟨u,r,rfl,h3,h4⟩:=h1;simp only[pU,fI]at h4;subst h4;simp at h2;subst h2;exact zP h3 (hl (s,e) (by simp))
 .rename_i hne;refine⟨⟨vs,?_,h1⟩,hl⟩;rw[h2];have:¬vs.length=1:=by
   intro h;rw[hlen]at h;match l,h with
   | [(s,e)],_=>exact hne s e rfl
  simp[this]
theorem Q5:∀(aK:List Sh) (nv:Nat),∀x∈jZ nv aK,∀vs,Exact x.1 x.2 vs
 | [],_,x,hx=>by simp[jZ]at hx
 |s::aK,nv,x,hx=>by
  simp only[jZ,iR]at hx;rcases hx with rfl|hx
  .exact sS (by simp) (by simp)
  exact Q5 aK (nv+1) x hx
end
section
variable{P:Program}{cfg:fF}{N0:Nat->Prop}{w0:Wb}{ρ:List C}{S:SS}{hv:Nat->Value}{a:Act}{w:World}{o:Oper}{Q:Exit->Act->World->Prop}{pc:bq}
theorem aZ.V8(h:aZ P N0 w0 ρ S hv a w){b:Nat}(hb:w.heap.size<=b):NN N0 w0.own ρ S.jd hv b:=
 ⟨.inr (.inl (zw h.below.size hb)),fun r k hr hl _ hp hg=>by have:=(h.lt hr hl hp hg).1;omega⟩
theorem fin_step{x:SX}{v:Value}{w':World}{hv':Nat->Value}{bs':List aL}{qY:Nat}(hr:(execOp a.eval o).run P w=.ok (.value v) w')(hrel:aZ P N0 w0 ρ {S with jd:=bs'} hv' a w')
  (hx:dA w' (NN N0 w0.own ρ bs' hv') ρ bs' hv' x v) (hp:bF ρ pc):
  o.wp P a w (fun a' w'=>∃hv',aZ P N0 w0 ρ {tmps:=eT S.tmps o.dst ⟨pc,x⟩,jd:=bs',nv:=qY} hv' a' w') Q:=by
 unfold Oper.wp;rw[hr];exact⟨hv',(hrel.put o.dst pc x v (fun _=>hx) (fun h=>absurd hp h)).nv qY⟩
theorem qJ(hrel:aZ P N0 w0 ρ S hv a w)(hp:bF ρ pc){out:Out}{m:Sem Value}(hc:out.jq=[])(hr:∀v,m.run P w=.ok v w->(execOp a.eval o).run P w=.ok (.value v) w)
  (hm:o7 P w (NN N0 w0.own ρ S.jd hv) ρ S.jd hv m out.x):
  o.wp P a w (fun a' w'=>∃hv',aZ P N0 w0 ρ {tmps:=eT S.tmps o.dst ⟨pc,out.x⟩,jd:=bP out.jq S.jd,nv:=S.nv+out.nv} hv' a' w') Q:=by
 obtain⟨v,h1,h2⟩:=hm;rw[hc];exact fin_step (hr v h1) hrel h2 hp
theorem axZ(hrel:aZ P N0 w0 ρ S hv a w)(hp:bF ρ pc){out:Out}{m:Sem Value}(hc:out.jq=[])(hr:∀v w',m.run P w=.ok v w'->(execOp a.eval o).run P w=.ok (.value v) w')
  (hm:Wq P w (NN N0 w0.own ρ S.jd hv) ρ S.jd hv m out.x):
  o.wp P a w (fun a' w'=>∃hv',aZ P N0 w0 ρ {tmps:=eT S.tmps o.dst ⟨pc,out.x⟩,jd:=bP out.jq S.jd,nv:=S.nv+out.nv} hv' a' w') Q:=by
 obtain⟨v,w',h1,h2,h3⟩:=hm;rw[hc];exact fin_step (hr v w' h1) (hrel.grow h2) h3 hp
theorem UE(hrel:aZ P N0 w0 ρ S hv a w)(hp:bF ρ pc){out:Out}{f:List Nat}(hc:out.jq=f.map .bM)(hf:∀q∈f,nH S.jd ρ q){u:Value}{w':World}
  (hr:(execOp a.eval o).run P w=.ok (.value u) w') (hb:Below w.heap.size w w') (hx:dA w' (NF (NN N0 w0.own ρ S.jd hv) hv f) ρ S.jd hv out.x u):
  o.wp P a w (fun a' w'=>∃hv',aZ P N0 w0 ρ {tmps:=eT S.tmps o.dst ⟨pc,out.x⟩,jd:=bP out.jq S.jd,nv:=S.nv+out.nv} hv' a' w') Q:=by
 rw[hc];refine fin_step hr ((hrel.grow hb).FV f) ?_ hp;exact hx.le (aS _) (fun b hb' _=>⟨rfl,(hrel.grow hb).nf hb' hf⟩) (UA ρ hv f S.jd)
theorem aiw{N:Nat->Prop}{s:Sh}{e:E}:∀{l:List (Sh×E)} {vs:List Value}{i:Nat},fI w N (gB ρ l) vs->l[i]?=some (s,e)->∃v,vs[i]?=some v/\bV w N s v (e.eval ρ):=by
 intro l;induction l with
 |nil=>intro vs i _ hi;simp at hi
 |cons x l ih=>
  intro vs i hv hi;obtain⟨v,r,rfl,g1,g2⟩:=hv;cases i with
  |zero=>simp at hi;subst hi;exact⟨v,rfl,g1⟩
  |succ i=>simpa using ih g2 (by simpa using hi)
theorem aio(hrel:aZ P N0 w0 ρ S hv a w)(hp:bF ρ pc){f:Nat}(hlt:f<1000000){l:List (Sh×E)}{bM:List Nat}{aK:List Sh}{vs:List Value}(h1:∀q∈bM,nH S.jd ρ q)
  (h2:fI w (NF (NN N0 w0.own ρ S.jd hv) hv bM) (gB ρ l) vs) (FE:zC P f->(execOp a.eval o).run P w=.ok (.enter f vs.toArray) w) (ho:fG P ρ S.nv [.call pc f l aK]):
  o.wp P a w (fun a' w'=>∃hv',aZ P N0 w0 ρ {tmps:=eT S.tmps o.dst ⟨pc,IE (jZ S.nv aK)⟩,jd:=bP (if aK.all Sh.iQ then []else bM.map .bM) S.jd,nv:=S.nv+aK.length} hv' a' w') Q:=by
 obtain⟨Wh,hlen⟩:=ho.1 hp;obtain⟨hcall,hpc⟩:=Wh.oF hlt;have Vb:=hpc w (NF (NN N0 w0.own ρ S.jd hv) hv bM) vs hrel.below.now h2;have hrun:=FE hcall;unfold Oper.wp;rw[hrun,Oper.upon_enter];refine Vb.mono fun e w' he=>?_;obtain⟨v,rfl,hres,hbel⟩:=he;have hg:=hrel.grow hbel;have hex:=Q5 aK S.nv;have hev:gB ρ (jZ S.nv aK)=aK.zip ((ρ.drop S.nv).take aK.length):=by
  rcases hlen with h0|hlen
  .subst h0;rfl
  .exact Gt (ρ:=ρ) aK S.nv hlen
 rw[<-hev]at hres;by_cases PE:aK.all Sh.iQ=true
 .simp only[PE,eO];refine⟨hv,(hg.put o.dst pc _ v (fun _=>aes hex ?_) (fun h=>absurd hp h)).nv _⟩;obtain⟨vs,r1,r2⟩:=hres;refine⟨vs,NG (fun x hx=>?_) r1,r2⟩;rw[hev]at hx;have:=(List.of_mem_zip hx).1;simp only[pR]at PE;exact PE _ this
 simp only[PE];refine⟨hv,((hg.FV bM).put o.dst pc _ v (fun _=>aes hex ?_) (fun h=>absurd hp h)).nv _⟩;obtain⟨vs,r1,r2⟩:=hres;refine⟨vs,r1.mono (aS _) (fun b hb _=>⟨rfl,?_⟩),r2⟩;rcases hb with hb|hb
 .exact hg.nf hb h1
 exact UC bM (hrel.V8 hb)
theorem aeL{f:Nat}{args:Array Operand}{ts:Array TypeId}{x:Operand}(hop:o.op=.call {callee:=.value x,args:=args,argTypes:=ts})(hx:a.eval x=.func (.func f) #[] #[])(hc:zC P f):
  (execOp a.eval o).run P w=.ok (.enter f (args.toList.map a.eval).toArray) w:=by
 obtain⟨fn,hfn,hbody,hname⟩:=hc;have hn:¬fn.name= "runtime.NumGoroutine" :=by simpa using hname
 have hb:¬fn.body=none:=by intro h;simp[h]at hbody
 have harr:(args.toList.map a.eval).toArray=args.map a.eval:=by apply xC;simp
 rw[harr];simp[execOp,hop,resolve,Deferred.ofValue,hx,invoke,callFunc,hfn,hn,hb]
theorem ayd(hrel:aZ P N0 w0 ρ S hv a w)(hp:bF ρ pc){f:Nat}{args:Array Operand}{ts:Array TypeId}(hop:o.op=.call {callee:=.value (.func f),args:=args,argTypes:=ts})(hlt:f<1000000)
  {l:List (Sh×E)} {bM:List Nat}{aK:List Sh}(ha:pK (S.ev P) S.rb pc args.toList ts.toList=some (l,bM)) (ho:fG P ρ S.nv [.call pc f l aK]):
  o.wp P a w (fun a' w'=>∃hv',aZ P N0 w0 ρ {tmps:=eT S.tmps o.dst ⟨pc,IE (jZ S.nv aK)⟩,jd:=bP (if aK.all Sh.iQ then []else bM.map .bM) S.jd,nv:=S.nv+aK.length} hv' a' w') Q:=by
 obtain⟨h1,h2⟩:=GA hrel.rows hp (fun o t x=>dD hrel hp) ha;exact aio hrel hp hlt h1 h2 (aeL hop rfl) ho
theorem auq(hrel:aZ P N0 w0 ρ S hv a w)(hp:bF ρ pc){out:Out}{f:Nat}{args:Array Operand}{ts:Array TypeId}(hop:o.op=.call {callee:=.value (.func f),args:=args,argTypes:=ts})
  {rs:Option (List Sh)} (h:BH P rs (S.ev P) S.rb pc S.nv f args.toList ts.toList=some out) (ho:fG P ρ S.nv out.ji):
  o.wp P a w (fun a' w'=>∃hv',aZ P N0 w0 ρ {tmps:=eT S.tmps o.dst ⟨pc,out.x⟩,jd:=bP out.jq S.jd,nv:=S.nv+out.nv} hv' a' w') Q:=by
 unfold BH at h;split at h
 .rename_i l bM aK ha;split at h
  next hlt=>simp only[dP]at h;subst h;exact ayd hrel hp hop hlt ha ho
  .simp at h
 simp at h
theorem Rx{N:Nat->Prop}{w':World}{N':Nat->Prop}:∀{s:Sh}{us:List Value}{e:E},Rd w N s us (e.eval ρ)->DY s us->Rd w' N' s us ((Di s e).eval ρ)/\Exact s (Di s e) us
 | .int _,_,_,h,_| .bool,_,_,h,_| .str,_,_,h,_=>⟨h,trivial⟩
 | .je,_,_,h,_=>⟨h,trivial⟩
 | .kP,_,_,h,_| .fH _,_,_,h,_=>⟨h,trivial⟩
 | .dB _ _,_,_,_,hn| .mp _ _,_,_,_,hn=>hn.elim
 | .sl e,us,_,_,hn=>by
  simp only[DY]at hn;subst hn;exact⟨⟨none,0,rfl,aS _,cu _,fun hne=>absurd rfl hne⟩,rfl⟩
 | .jc a b,us,e,h,hn=>by
  obtain⟨h0,va,vb,h1,h2,h3⟩:=h;obtain⟨na,nb,n1,n2,n3,n4⟩:=hn;have hl:va.length=na.length:=by rw[h2.length,n2]
  obtain⟨rfl,rfl⟩:va=na/\vb=nb:=List.append_inj (h1.symm.trans n1) hl;have ha:Rd w N a va ((Ab e).eval ρ):=by rw[Ny];exact h2
  have hb:Rd w N b vb ((Aa e).eval ρ):=Rd.zG h0 (Nw ρ e).symm h3;obtain⟨a1,a2⟩:=Rx ha n3;obtain⟨b1,b2⟩:=Rx hb n4;refine⟨⟨h0,va,vb,h1,?_,?_⟩,va,vb,h1,n2,a2,b2⟩
  .simpa [Di,E.eval]using a1
  exact Rd.zG h0 (by simp[Di,E.eval]) b1
theorem aus(hrel:aZ P N0 w0 ρ S hv a w)(hp:bF ρ pc){out:Out}{f:Nat}{args:Array Operand}{ts:Array TypeId}(hop:o.op=.call {callee:=.value (.func f),args:=args,argTypes:=ts})
  (h:BI P (S.ev P) S.rb pc S.nv o.type f args.toList ts.toList=some out) (ho:fG P ρ S.nv out.ji):
  o.wp P a w (fun a' w'=>∃hv',aZ P N0 w0 ρ {tmps:=eT S.tmps o.dst ⟨pc,out.x⟩,jd:=bP out.jq S.jd,nv:=S.nv+out.nv} hv' a' w') Q:=by
 unfold BI at h;split at h
 .rename_i l bM s ha hrt;simp only[dP]at h;subst h;obtain⟨h1,h2⟩:=GA hrel.rows hp (fun o t x=>dD hrel hp) ha;obtain⟨Wh,hlen⟩:=ho.1 hp;obtain⟨s',c,VL,⟨fn,hfn,hbody,hname⟩,hpc⟩:=Wh.toN;have Vb:=hpc w (NF (NN N0 w0.own ρ S.jd hv) hv bM) (args.toList.map a.eval) hrel.below.now h2;have hrun:(execOp a.eval o).run P w=.ok (.enter f (args.toList.map a.eval).toArray) w:=by
   have hn:¬fn.name= "runtime.NumGoroutine" :=by simpa using hname
   have hb:¬fn.body=none:=by intro h;simp[h]at hbody
   have harr:(args.toList.map a.eval).toArray=args.map a.eval:=by apply xC;simp
   rw[harr];simp[execOp,hop,resolve,Deferred.ofValue,Act.eval,invoke,callFunc,hfn,hn,hb]
  unfold Oper.wp;rw[hrun,Oper.upon_enter];refine Vb.mono fun e w' he=>?_;obtain⟨us,rfl,hres,hnil,hbel⟩:=he;have hg:=hrel.grow hbel;have hlen:S.nv+1<=ρ.length:=by
   rcases hlen with h0|hlen
   .cases h0
   .exact hlen
  have hev:=Gt (ρ:=ρ) [s] S.nv hlen;rw[<-hev]at VL;simp only[jZ,gB,jG,pU,kE,iG,lC]at VL;obtain⟨rfl,rfl⟩:=VL;obtain⟨r1,r2⟩:=Rx (w':=w') (N':=NN N0 w0.own ρ S.jd hv) hres hnil;exact⟨hv,(hg.put o.dst pc (.jo s (Di s (.vq S.nv))) (s.mk us) (fun _=>⟨us,r1,rfl,r2⟩) (fun h=>absurd hp h)).nv _⟩
 simp at h
theorem GI(hrel:aZ P N0 w0 ρ S hv a w)(hp:bF ρ pc){x:Operand}{k:IntKind}{e:E}(h:tu (S.ev P pc x 0)=some (k,e)):a.eval x=.int k (e.eval ρ).toInt:=by
 unfold tu at h;split at h
 next k' e' he=>simp at h;obtain⟨rfl,rfl⟩:=h;have:=dD hrel hp he;rwa[jB]at this
 simp at h
theorem as2(hrel:aZ P N0 w0 ρ S hv a w)(hp:bF ρ pc){out:Out}{t:TypeId}(hop:o.op=.alloc t)(h:Fp P S.rb pc t o.dst=some out):
  o.wp P a w (fun a' w'=>∃hv',aZ P N0 w0 ρ {tmps:=eT S.tmps o.dst ⟨pc,out.x⟩,jd:=bP out.jq S.jd,nv:=S.nv+out.nv} hv' a' w') Q:=by
 unfold Fp at h;split at h
 .rename_i s d hs hd;split at h
  .rename_i e hz;split at h
   next hok=>simp only[bB]at hok;simp at h;subst h;obtain⟨i,v,hi,hz1,hz2,hz3⟩:=JL (w:=w) (N:=NN N0 w0.own ρ S.jd hv) (ρ:=ρ) hz;obtain⟨hv',g1,g2⟩:=Uv (P:=P) hrel hok.1.1 (s:=s) (t:=t) pc (JR hz2 hz3);refine fin_step (w':=w.alloc (.cells v.cells.toList.toArray t)) ?_ g1 g2 hp;simp[execOp,hop,Instr.alloc,zeroValue,typeInfo,hi,hz1,newVar,newRow]
   simp at h
  .simp at h
 simp at h
theorem avx(hrel:aZ P N0 w0 ρ S hv a w)(hp:bF ρ pc){out:Out}{t:TypeId}{x:Operand}(hop:o.op=.box t x)(h:IZ P S.rb pc t o.dst (S.ev P pc x t)=some out):
  o.wp P a w (fun a' w'=>∃hv',aZ P N0 w0 ρ {tmps:=eT S.tmps o.dst ⟨pc,out.x⟩,jd:=bP out.jq S.jd,nv:=S.nv+out.nv} hv' a' w') Q:=by
 unfold IZ at h;split at h
 .rename_i s e d he hd;split at h
  .rename_i hok;simp only[bB]at hok;simp at h;subst h;obtain⟨us,h1,h2,h3⟩:=dD hrel hp he;obtain⟨hv',g1,g2⟩:=Uv (P:=P) hrel hok.1 (s:=s) (t:=t) pc (JR h1 h3);refine fin_step (w':=w.alloc (.cells us.toArray t)) ?_ g1 g2 hp;have hc:(a.eval x).cells=us.toArray:=by
    apply xC;rw[h2,NV h1.length fun u hu=>(Dk h1 u hu).2]
   simp[execOp,hop,Instr.box,newVar,newRow,hc]
  simp at h
 .rename_i r n d he hd;split at h
  .rename_i s e hr;split at h
   .rename_i hok;simp only[bB]at hok;simp at h;subst h;have hx:=dD hrel hp he;obtain⟨hv',g1,g2⟩:=Uv (P:=P) hrel hok.1 (s:=.sl s) (t:=t) (vs:=[a.eval x]) (cs:=[.full r n]) pc ⟨_,[],rfl,hx,rfl⟩;refine fin_step (w':=w.alloc (.cells [a.eval x].toArray t)) ?_ g1 g2 hp;obtain⟨p,hin,hpp⟩:=uw hp hr;obtain⟨hv1,_⟩:=hx.2 _ _ p hin hpp;obtain⟨et,xs,hown,_,_⟩:=hrel.rows.row r _ _ p hin hpp;have hc:(a.eval x).cells= #[a.eval x]:=by
     rw[hv1];rcases vF hown with⟨h5,_,_⟩|⟨g,cap,h5,_⟩<;>rw[h5]<;>rfl
    simp[execOp,hop,Instr.box,newVar,newRow,hc]
   simp at h
  .simp at h
 simp at h
theorem QN{s:Sh}{v:Value}{c:C}{N:Nat->Prop}(hz:Rd w N s v.cells.toList c)(hs:0<s.size):∀n,cZ w N s ((List.range (n*s.size)).map fun j=>v.cells[j%v.cells.size]!) (List.replicate n c)
 |0=>by simp[cZ]
 |n+1=>by
  have hl:v.cells.size=s.size:=by have:=hz.length;simpa using this
  have ih:=QN hz hs n;rw[List.replicate_succ,pq,Ay];refine⟨v.cells.toList,(List.range (n*s.size)).map fun j=>v.cells[j%v.cells.size]!,?_,hz,ih⟩;rw[Cm,List.range_add,gW,vW];congr 1
  .apply List.ext_getElem
   .simp[hl]
   .intro j h1 h2;simp at h1 h2;have:j%v.cells.size=j:=F3 h2;simp[this,h2]
  apply Ca;intro j _;simp[hl,Nat.add_mod_left]
theorem atQ(hrel:aZ P N0 w0 ρ S hv a w)(hp:bF ρ pc){out:Out}{t:TypeId}{l c:Operand}(hop:o.op=.makeSlice t l c)
  (h:FD P S.rb pc t o.dst (tu (S.ev P pc l 0)) (tu (S.ev P pc c 0))=some out) (ho:fG P ρ S.nv out.ji):
  o.wp P a w (fun a' w'=>∃hv',aZ P N0 w0 ρ {tmps:=eT S.tmps o.dst ⟨pc,out.x⟩,jd:=bP out.jq S.jd,nv:=S.nv+out.nv} hv' a' w') Q:=by
 unfold FD at h;split at h
 .rename_i et kl el kc ec d ht hl hc hd;split at h
  .simp at h
  .rename_i s hs;split at h
   .rename_i z hz;split at h
    .rename_i hok;simp only[bB]at hok;obtain⟨⟨⟨hnew,hfit⟩,hs0⟩,hb0⟩:=hok;have hs0:0<s.size:=by simp at hs0;omega
     have hb0:0<P.bytesOf et:=by simp at hb0;omega
     simp at h;subst h;have el':=GI hrel hp hl;have ec':=GI hrel hp hc;obtain⟨q1,q2⟩:=Kk hp ho;obtain⟨q3,q4⟩:=Kk hp q2;have q5:=Da hp q4;simp[E.eval,mY,sU]at q1 q3 q5;obtain⟨i,v,hi,hz1,hz2,hz3⟩:=JL (w:=w) (N:=NN N0 w0.own ρ S.jd hv) (ρ:=ρ) hz;have hsz:i.size=s.size:=by obtain⟨i',_,hi',hs',_⟩:=GK hfit;rw[hi]at hi';injection hi' with hi';rw[hi'];exact hs'
     have hby:P.bytesOf et=i.bytes:=by simp[Program.bytesOf,hi]
     obtain⟨nl,hnl⟩:∃n:Nat,(el.eval ρ).toInt=(n:Int):=⟨(el.eval ρ).toInt.toNat,by omega⟩;obtain⟨nc,hnc⟩:∃n:Nat,(ec.eval ρ).toInt=(n:Int):=⟨(ec.eval ρ).toInt.toNat,by omega⟩;have hlc:nl<=nc:=by omega
     have q5:=ng q5;rw[hnc,hby]at q5;rw[hby]at hb0;have aDM:nc<=281474976710656:=by
      have h1:i.bytes*nc<=281474976710656:=by
       have:((i.bytes*nc:Nat):Int)<=281474976710656:=by rw[Int.natCast_mul];exact q5
       omega
      exact zw (Nat.le_mul_of_pos_left _ hb0) h1
     have hmk:=run_make (P:=P) w t et i v (AY ht) hi hz1 kl kc nl nc (by omega) (by omega) q5 (by omega);simp only[dF,hsz]at hmk;have hW:madeCells v.cells (nc*s.size)=((((List.range (nc*s.size)).map fun j=>v.cells[j%v.cells.size]!).take (nl*s.size))++(((List.range (nc*s.size)).map fun j=>v.cells[j%v.cells.size]!).drop (nl*s.size))).toArray:=by
      rw[D5];unfold madeCells;apply xC;simp[Array.toList_range]
     have hev:(((E.rep el z).eval ρ)).toList=List.replicate nl (z.eval ρ):=by simp[E.eval,hnl]
     have hrow:=(QN hz2 hs0 nc).take nl;rw[List.take_replicate,u6 hlc,<-hev]at hrow;obtain⟨hv',g1,g2⟩:=new_row hrel hnew (t:=et) pc (rest:=((List.range (nc*s.size)).map fun j=>v.cells[j%v.cells.size]!).drop (nl*s.size)) (cap:=nc) hrow hs0 (by rw[D5];simp)
      (by simp only[maxLen];omega) el (by rw[hev,hnl];simp)
     rw[<-hW]at g1 g2;rw[hev,qV]at g2;refine fin_step ?_ g1 g2 hp;simp[execOp,hop,el',ec',hnl,hnc,hmk]
    simp at h
   .simp at h
 simp at h
theorem aqB(hrel:aZ P N0 w0 ρ S hv a w)(hp:bF ρ pc){out:Out}{t:TypeId}{len:Nat}{parts:Array (Nat×Operand)}(hop:o.op=.buildSlice t len parts)
  (h:EJ P (S.ev P) S.rb pc t len o.dst parts.toList=some out):
  o.wp P a w (fun a' w'=>∃hv',aZ P N0 w0 ρ {tmps:=eT S.tmps o.dst ⟨pc,out.x⟩,jd:=bP out.jq S.jd,nv:=S.nv+out.nv} hv' a' w') Q:=by
 unfold EJ at h;split at h
 .rename_i et d ht hd;split at h
  .simp at h
  .rename_i s hs;split at h
   .rename_i hok;simp only[bB,dQ]at hok;obtain⟨⟨⟨⟨⟨hnew,hfit⟩,hs0⟩,hpl⟩,hlen⟩,hz⟩:=hok;have hs0:0<s.size:=by simp at hs0;omega
    split at h
    .rename_i e hb;simp at h;subst h;obtain⟨r1,r2,xs,r3,r4⟩:=Rz hrel.rows hp (fun o t x=>dD hrel hp) hb;have r3:cZ w (NN N0 w0.own ρ S.jd hv) s xs (e.eval ρ).toList:=r3.mono (aS _) fun b hb _=>⟨rfl,(aAR _ _ _).1 hb⟩;rw[hpl]at r2;have hl:xs.length=len*s.size:=by rw[r3.length,r2]
     have hrun:=aaH (P:=P) (w:=w) (parts:=parts.toList.map fun x=>(x.1,a.eval x.2)) (AY ht) hfit hz hlen hl fun vs hvs=>by
      have:=r4 vs (by rw[hpl];omega);rw[hpl]at this;simpa using this
     obtain⟨hv',g1,g2⟩:=new_row hrel hnew (t:=et) pc (rest:=[]) (cap:=len) r3 hs0 (by simpa using hl) (by simp only[maxLen];have:len<=len*s.size:=Nat.le_mul_of_pos_right _ hs0;omega) (.int len) (by simp[E.eval,r2]);rw[r2]at g2;simp only[lV]at g1 g2;refine fin_step ?_ g1 g2 hp;have harr:(parts.map fun x=>(x.1,a.eval x.2))=(parts.toList.map fun x=>(x.1,a.eval x.2)).toArray:=by apply xC;simp
     simp only[execOp,hop];have aBx:(parts.map fun(i,x)=>(i,a.eval x))=(parts.toList.map fun x=>(x.1,a.eval x.2)).toArray:=harr;rw[aBx];simp[hrun]
    simp at h
   .simp at h
 simp at h
theorem adG{P:Program}{t:TypeId}{name:String}{f:FuncId}(h:E8 P t name=some f):
  ∃i d m,P.info? t=some i/\P.underlying t=some d/\i.methods.find? (fun m=>m.name==name)=some m/\m.path.toList=[]/\m.func=some (f,false)/\∀e,d≠.pointer e:=by
 unfold E8 at h;split at h
 .rename_i i d hi hd;split at h
  .rename_i m hm;split at h
   .rename_i f' hf;split at h
    .simp at h
    next hnp=>simp at h;obtain⟨h1,rfl⟩:=h;exact⟨i,d,m,hi,hd,hm,by rw[h1],hf,fun e he=>hnp e he⟩
   simp at h
  .simp at h
 simp at h
theorem run_typeInfo{P:Program}{w:World}{t:TypeId}{i:TypeInfo}(h:P.info? t=some i):(typeInfo t).run P w=.ok i w:=by simp[typeInfo,h]
theorem ash{P:Program}{w:World}{t:TypeId}{name:String}{f:FuncId}(h:E8 P t name=some f)(n:Nat)(v:Value):(nilAhead (n+1) t v name).run P w=.ok (some false) w:=by
 obtain⟨i,d,m,hi,hd,hm,hp,hf,hnp⟩:=adG h;unfold nilAhead;simp only[iB,run_typeInfo hi,sG,hm,hp,followBlind,Sem.run_pure,hf,dR hd];cases d<;>first|rfl|(exact absurd rfl (hnp _))
theorem au1{P:Program}{w:World}{t:TypeId}{name:String}{f:FuncId}(h:E8 P t name=some f)(n:Nat)(v:Value):(method (n+1) t v name).run P w=.ok (f,v) w:=by
 obtain⟨i,d,m,hi,hd,hm,hp,hf,hnp⟩:=adG h;unfold method;simp only[iB,run_typeInfo hi,sG,hm,hp,follow,Sem.run_pure,hf,receiverAt,dR hd];cases d<;>first|(simp[Place.get];done)|(exact absurd rfl (hnp _))
theorem Nn(s:Sh)(e:E)(vs:List Value):Exact s (yB e) vs:=sS (by simp[yB]) (by simp[yB]) vs
theorem afK(ρ:List C)(e:E):(yB e).eval ρ=e.eval ρ:=by simp[yB,E.eval]
theorem Hq{w:World}{N:Nat->Prop}{ρ:List C}{bs:List aL}{hv:Nat->Value}{t:TypeId}{s:Sh}{e:E}{v:Value}(h:dA w N ρ bs hv (.jo (.dB t s) e) v):
  ∃us,v=.iface t (s.mk us)/\Rd w N s us (e.eval ρ):=by
 obtain⟨vs,⟨us,h1,h2⟩,h3,_⟩:=h;subst h1;exact⟨us,by simpa[Sh.mk,Sh.isAgg]using h3,h2⟩
theorem TY{w:World}{N:Nat->Prop}{ρ:List C}{bs:List aL}{hv:Nat->Value}{e:E}{v:Value}(h:dA w N ρ bs hv (.jo .kP e) v):v=.nilIface:=by
 obtain⟨vs,h1,h3,_⟩:=h;simp only[Rd]at h1;subst h1;simpa[Sh.mk,Sh.isAgg]using h3
theorem Sm{w:World}{N:Nat->Prop}{ρ:List C}{bs:List aL}{hv:Nat->Value}{t:TypeId}{s:Sh}{e:E}{us:List Value}(h:Rd w N s us (e.eval ρ)):dA w N ρ bs hv (.jo (.dB t s) e) (.iface t (s.mk us)):=
 ⟨[.iface t (s.mk us)],⟨us,rfl,h⟩,by simp[Sh.mk,Sh.isAgg],by cases e<;>trivial⟩
theorem aud{P:Program}{w:World}(d:Nat){xt:TypeId}{l:Array (String×TypeId)}(hu:P.underlying xt=some (.interface l))(t:TypeId)(v:Value):(Op.equalIn (d+1) xt (.iface t v) .nilIface).run P w=.ok false w:=by
 simp[Op.equalIn,dR hu]
theorem avq{P:Program}{w:World}(d:Nat){xt:TypeId}{l:Array (String×TypeId)}(hu:P.underlying xt=some (.interface l)):(Op.equalIn (d+1) xt .nilIface .nilIface).run P w=.ok true w:=by
 simp[Op.equalIn,dR hu]
theorem afN{P:Program}{w:World}{xt:TypeId}{l:Array (String×TypeId)}(hu:P.underlying xt=some (.interface l)){t:TypeId}{v:Value}:(Op.equal xt (.iface t v) .nilIface).run P w=.ok false w:=by
 unfold Op.equal;exact aud 9999 hu t v
theorem agT{P:Program}{w:World}{xt:TypeId}{l:Array (String×TypeId)}(hu:P.underlying xt=some (.interface l)):(Op.equal xt .nilIface .nilIface).run P w=.ok true w:=by
 unfold Op.equal;exact avq 9999 hu
theorem ad3(hrel:aZ P N0 w0 ρ S hv a w)(hp:bF ρ pc){out:Out}{f:Nat}{pre:List (Sh×E)}{us:List Value}{args:List Operand}{ts:List TypeId}
  (h:uL P cfg (S.ev P) S.rb pc S.nv o.type f pre args ts=some out) (hpre:∀{l:List (Sh×E)} {vs:List Value}{N:Nat->Prop},(∀b,NN N0 w0.own ρ S.jd hv b->N b)->fI w N (gB ρ l) vs->fI w N (gB ρ (pre++l)) (us++vs))
  (FE:zC P f->(execOp a.eval o).run P w=.ok (.enter f (us++args.map a.eval).toArray) w) (ho:fG P ρ S.nv out.ji):
  o.wp P a w (fun a' w'=>∃hv',aZ P N0 w0 ρ {tmps:=eT S.tmps o.dst ⟨pc,out.x⟩,jd:=bP out.jq S.jd,nv:=S.nv+out.nv} hv' a' w') Q:=by
 unfold uL at h;split at h
 .rename_i l bM aK ha hr;split at h
  next hlt=>injection h with h;subst h;obtain⟨h1,h2⟩:=GA hrel.rows hp (fun o t x=>dD hrel hp) ha;exact aio hrel hp hlt h1 (hpre (fun b hb=> .inl hb) h2) FE ho
  .simp at h
 simp at h
theorem aub{x:Operand}{name:String}{args:Array Operand}{ts:Array TypeId}(hop:o.op=.call {callee:=.invoke x name,args:=args,argTypes:=ts}){t:TypeId}{v:Value}(hx:a.eval x=.iface t v){f:FuncId}(hm:E8 P t name=some f)(hc:zC P f):
  (execOp a.eval o).run P w=.ok (.enter f ([v]++args.toList.map a.eval).toArray) w:=by
 obtain⟨fn,hfn,hbody,hname⟩:=hc;have hn:¬fn.name= "runtime.NumGoroutine" :=by simpa using hname
 have hb:¬fn.body=none:=by intro h;simp[h]at hbody
 obtain⟨n,hd⟩:∃n,P.types.size+Made.depth=n+1:=⟨P.types.size+99,rfl⟩;have harr:([v]++args.toList.map a.eval).toArray= #[v]++args.map a.eval:=by apply xC;simp
 rw[harr];have hext:(#[Value.iface t v]++args.map a.eval).extract 1 (#[Value.iface t v]++args.map a.eval).size=args.map a.eval:=by
  apply xC;simp;rw[mO (by simp)]
 have h0:(#[Value.iface t v]++args.map a.eval)[0]?=some (.iface t v):=by rw[Array.getElem?_append_left (by simp)];rfl
 have hres:(resolve a.eval {callee:=.invoke x name,args:=args,argTypes:=ts} o.type).run P w=.ok {target:=.fn (.method name) #[],args:= #[.iface t v]++args.map a.eval} w:=by simp[resolve,hx]
 have hcm:(callMethod (.iface t v) name (args.map a.eval)).run P w=.ok (.enter f (#[v]++args.map a.eval)) w:=by
  simp[callMethod,hd,au1 hm,callFunc,hfn,hn,hb]
 simp only[execOp,hop];rw[iB,hres];simp only[sG,invoke,h0,hext];exact hcm
theorem as3{t:TypeId}{s:Sh}{e:E}{N:Nat->Prop}(h:Vl P t s=some e):∃z,(zeroValue t).run P w=.ok z w/\Rd w N s [z] (e.eval ρ):=by
 unfold Vl at h;split at h
 .rename_i v hv;obtain⟨i,hi,hz⟩:=vV.1 hv;split at h
  next e' hu=>injection h with h;subst h;obtain⟨us,h1,h2,_⟩:=Q0 (w:=w) (N:=N) (ρ:=ρ) hu;simp at h1;subst h1;exact⟨v,by simp[zeroValue,typeInfo,hi,hz],h2⟩
  .simp at h
 simp at h
theorem afu{t:TypeId}{kk:IntKind}{et:TypeId}(h:LK P t=some (kk,et)):∃k,P.underlying t=some (.map k et)/\P.underlying k=some (.int kk):=by
 unfold LK at h;split at h
 .rename_i k e hu;split at h
  next k' hk=>simp at h;obtain⟨rfl,rfl⟩:=h;exact⟨k,hu,hk⟩
  .simp at h
 simp at h
theorem atP(hrel:aZ P N0 w0 ρ S hv a w)(hp:bF ρ pc){x:Operand}{t:TypeId}{k:IntKind}{s:Sh}{e:E}(h:Ik S.rb pc (S.ev P pc x t)=some (k,s,e)):
  ∃g l,a.eval x=.map (some g)/\rD w g k l/\qQ (fun v d=>Rd w (NN N0 w0.own ρ S.jd hv) s [v] d) l (e.eval ρ).toList:=by
 unfold Ik at h;split at h
 next he=>simp at h;obtain⟨rfl,rfl,rfl⟩:=h;obtain⟨vs,⟨g,l,h1,h2,h3,h4,h5⟩,h6,_⟩:=dD hrel hp he;subst h1;exact⟨g,l,by simpa[Sh.mk,Sh.isAgg]using h6,h4,h5⟩
 next r he=>obtain⟨p,h1,h2⟩:=TK hp h;obtain⟨g,l,h3,h4,h5,h6⟩:=hrel.rows.map r _ _ _ p h1 h2;obtain⟨hkn,hx⟩:=dD hrel hp he;exact⟨g,l,by rw[hx,h3],h5,h6⟩
 simp at h
theorem ahE{s:Sh}(h:s.isAgg=false)(v:Value):s.mk [v]=v:=by simp[Sh.mk,h]
theorem awf{out:Out}(hrel:aZ P N0 w0 ρ S hv a w)(hp:bF ρ pc)(h:vg P cfg o pc (S.ev P) S.rb S.nv=some out)(ho:fG P ρ S.nv out.ji):
  o.wp P a w (fun a' w'=>∃hv',aZ P N0 w0 ρ {tmps:=eT S.tmps o.dst ⟨pc,out.x⟩,jd:=bP out.jq S.jd,nv:=S.nv+out.nv} hv' a' w') Q:=by
 unfold vg at h;split at h
 .rename_i x name args ts hop;split at h
  .rename_i t s e he;split at h
   next f hm=>obtain⟨us,h1,h2⟩:=Hq (dD hrel hp he);refine ad3 hrel hp (us:=[s.mk us]) h (fun hN hl=>⟨_,_,rfl,⟨us,h2.mono (aS _) fun b hb _=>⟨rfl,hN b hb⟩,rfl⟩,hl⟩) (aub hop h1 hm) ho
   .simp at h
  simp at h
 .simp at h
 .rename_i x args ts _ hop;split at h
  next f e he=>obtain⟨vs,h1,h2,_⟩:=dD hrel hp he;simp only[Rd]at h1;subst h1;exact ad3 hrel hp (us:=[]) h (fun _ hl=>hl) (aeL hop (by simpa[Sh.mk,Sh.isAgg]using h2)) ho
  simp at h
 .rename_i t m x ok hop;split at h
  .rename_i kk et k' ek Mq s e ht hk hm;split at h
   .rename_i hok;simp only[bB,dQ,zl]at hok;obtain⟨⟨rfl,rfl⟩,hag⟩:=hok;split at h
    .rename_i z hz;obtain⟨g,l,h1,h2,h3⟩:=atP hrel hp hm;obtain⟨z',hz1,hz2⟩:=as3 (w:=w) (ρ:=ρ) (N:=NN N0 w0.own ρ S.jd hv) hz;obtain⟨kt,hu1,hu2⟩:=afu ht;have hkv:=GI hrel hp hk;have hrun:=h2.axJ hu1 hu2 hz1 (ek.eval ρ).toInt ok;have hval:Rd w (NN N0 w0.own ρ S.jd hv) s [(look l (ek.eval ρ).toInt).getD z'] ((E.jF e ek z).eval ρ)/\(look l (ek.eval ρ).toInt).isSome=((E.vQ e ek).eval ρ).toBool:=by
      rcases h3.find (ek.eval ρ).toInt with⟨f1,f2⟩|⟨v,d,f1,f2,f3⟩
      .simp only[E.eval,f1,f2];exact⟨hz2,rfl⟩
      .simp only[E.eval,f1,f2];exact⟨f3,rfl⟩
     have hrd:bV w (NN N0 w0.own ρ S.jd hv) s ((look l (ek.eval ρ).toInt).getD z') ((yB (.jF e ek z)).eval ρ):=⟨[_],by rw[afK];exact hval.1,(ahE hag _).symm⟩;cases ok with
     |true=>
      simp only[eO,dP]at h hrun;subst h;refine fin_step (v:=.tuple #[(look l (ek.eval ρ).toInt).getD z',.bool (look l (ek.eval ρ).toInt).isSome]) (bs':=S.jd) (w':=w) ?_ hrel ?_ hp
      .simp only[execOp,hop,h1,hkv];rw[iB,hrun];rfl
      refine ⟨⟨[_,_],rfl,⟨_,_,rfl,hrd,_,_,rfl,⟨[.bool (look l (ek.eval ρ).toInt).isSome],?_,by simp[Sh.mk,Sh.isAgg]⟩,rfl⟩⟩,?_⟩
      .rw[hval.2];rfl
      intro x hx vs;simp only[iR,List.not_mem_nil,pz]at hx;rcases hx with rfl|rfl
      .exact Nn _ _ _
      trivial
     |false=>
      simp only[xk,pY,dP]at h hrun;subst h;refine fin_step (bs':=S.jd) (w':=w) ?_ hrel (zP hrd (Nn _ _)) hp;simp only[execOp,hop,h1,hkv];rw[iB,hrun];rfl
    simp at h
   .simp at h
  simp at h
 .rename_i t hop;split at h
  .rename_i kk et d ht hd;split at h
   .rename_i s hs;split at h
    .rename_i hok;simp only[bB]at hok;injection h with h;subst h;obtain⟨k0,hk0,hkn⟩:=J7 hok.1;have hdl:d<S.jd.length:=(zy.1 hk0).1;obtain⟨g1,g2⟩:=hrel.new (w':=w.alloc (.map #[] 0)) ⟨k0,hk0,hkn⟩ (.mp kk s .nil) pc (.map (some w.heap.size)) ((eD _ w).alloc (aS _) _) (fun g hg=>by injection hg with hg;omega)
      (fun _=>⟨w.heap.size,[],by simp[upd],.inl hrel.below.size,rD.new w kk,by simp[E.eval,qQ]⟩)
     refine fin_step ?_ g1 ⟨⟨_,nV hdl,by simp⟩,by simp[upd];rfl⟩ hp;simp only[execOp,hop,Option.map_none];rw[iB,run_makeMap];rfl
    simp at h
   .simp at h
  simp at h
 .rename_i t x hop;split at h
  .rename_i e d ht he hd;split at h
   .rename_i hok;injection h with h;subst h;obtain⟨k0,hk0,hkn⟩:=J7 hok;have hdl:d<S.jd.length:=(zy.1 hk0).1;have hx:=dD hrel hp he;rw[uD]at hx;obtain⟨g1,g2⟩:=hrel.new (w':=w.alloc (.stringIter ⟨(e.eval ρ).jk.toArray⟩ 0)) ⟨k0,hk0,hkn⟩ (.sit e (.int 0)) pc (.pointer (some ⟨w.heap.size,0,none⟩)) ((eD _ w).alloc (aS _) _) (fun g hg=>by injection hg with hg;simp at hg;omega)
     (fun _=>⟨w.heap.size,0,by simp[upd],.inl hrel.below.size,rfl,xB w _⟩)
    refine fin_step ?_ g1 ⟨⟨_,nV hdl,by simp⟩,by simp[upd];rfl⟩ hp;simp only[execOp,hop,hx];simp[Instr.range,dR ht]
   simp at h
  .simp at h
 simp at h
theorem au9{out:Out}(hrel:aZ P N0 w0 ρ S hv a w)(hp:bF ρ pc)(h:nJ P cfg o pc (S.ev P) S.rb S.nv=some out)(ho:fG P ρ S.nv out.ji):
  o.wp P a w (fun a' w'=>∃hv',aZ P N0 w0 ρ {tmps:=eT S.tmps o.dst ⟨pc,out.x⟩,jd:=bP out.jq S.jd,nv:=S.nv+out.nv} hv' a' w') Q:=by
 unfold nJ at h;split at h
 case h_1 x hop=>
  split at h
  next y hy=>simp at h;subst h;exact qJ hrel hp rfl (m:=pure (a.eval x)) (fun v hv=>by simp at hv;subst hv;simp[execOp,hop]) ⟨_,by simp,dD hrel hp hy⟩
  simp at h
 case h_2 x hop=>
  split at h
  next y hy=>simp at h;subst h;exact qJ hrel hp rfl (m:=pure (a.eval x)) (fun v hv=>by simp at hv;subst hv;simp[execOp,hop]) ⟨_,by simp,dD hrel hp hy⟩
  simp at h
 case h_3 c x y hop=>
  obtain⟨h1,h2,h3,h4⟩:=atz (P:=P) (vc:=a.eval c) (va:=a.eval x) (vb:=a.eval y) h (fun z hz=>dD hrel hp hz)
   (fun e z hc hb hz=>dD hrel (Gs.2 ⟨hp,Gr.2 hb⟩) hz) (fun e z hc hb hz=>dD hrel (Gs.2 ⟨hp,Gr.2 hb⟩) hz)
  refine qJ hrel hp h1 (fun v hv=>?_) h4;simp only[execOp,hop];simp at hv |-;cases hb:(asBool (a.eval c)).run P w with
  |ok b w'=>simp[hb]at hv |-;obtain⟨rfl,rfl⟩:=hv;simp
  |halt hh w'=>simp[hb]at hv
 case h_4 op xt x y yt hop=>
  split at h
  .rename_i s ex s' ey hx hy;by_cases hag:s.isAgg=false
   .obtain ⟨h1,h2,h3⟩:=avy (P:=P) (ox:=x) (oy:=y) h hag hp ho (dD hrel hp hx) (dD hrel hp hy);refine qJ hrel hp h1 (fun v hv=>?_) h3;simp only[execOp,hop];rw[iB,hv];simp
   .obtain ⟨h1,h2,h3⟩:=ayi (P:=P) (ox:=x) (oy:=y) h (by simpa using hag) (dD hrel hp hx) (dD hrel hp hy);refine qJ hrel hp h1 (fun v hv=>?_) h3;simp only[execOp,hop];rw[iB,hv];simp
  simp at h
 case h_5 op t x hop=>
  obtain⟨h1,h2,h3,h4⟩:=avN (P:=P) (v:=a.eval x) h (fun z hz=>dD hrel hp hz);refine qJ hrel hp h1 (fun v hv=>?_) h4;simp only[execOp,hop];rw[iB,hv];simp
 case h_6 src dst x hop=>
  obtain⟨h1,h2,h3⟩:=aum (P:=P) hrel.rows hp (v:=a.eval x) h (fun z hz=>dD hrel hp hz) ho (fun b hb=>hrel.V8 hb);refine axZ hrel hp h1 (fun v w' hv=>?_) h3;simp only[execOp,hop];rw[iB,hv];simp
 case h_7 t i hop=>
  split at h
  .rename_i l hl;split at h
   next s e hi=>simp at h;subst h;obtain⟨⟨vs,h1,h2⟩,hex⟩:=dD hrel hp hl;obtain⟨v,h3,h4⟩:=aiw h2 hi;refine qJ hrel hp rfl (m:=Instr.extract (a.eval t) i) (fun v hv=>?_) ⟨v,by rw[h1];simp[Instr.extract,h3],zP h4 (hex (s,e) (Jg hi))⟩;simp only[execOp,hop];rw[iB,hv];simp
   simp at h
  .rename_i r n l hl;obtain⟨hkn,v1,vr,h1,h2,h3,hex⟩:=dD hrel hp hl;split at h
   .simp at h;subst h;refine qJ hrel hp rfl (m:=Instr.extract (a.eval t) 0) (fun v hv=>?_) ⟨v1,by rw[h1];simp[Instr.extract],hkn,h2⟩;simp only[execOp,hop];rw[iB,hv];simp
   .rename_i i;split at h
    next s e hi=>simp at h;subst h;obtain⟨v,h4,h5⟩:=aiw h3 hi;refine qJ hrel hp rfl (m:=Instr.extract (a.eval t) (i+1)) (fun v hv=>?_) ⟨v,by rw[h1];simp[Instr.extract,h4],zP h5 (hex (s,e) (Jg hi))⟩;simp only[execOp,hop];rw[iB,hv];simp
    .simp at h
  simp at h
 case h_8 t x j hop=>
  obtain⟨h1,h2,h3,h4⟩:=asN (P:=P) (v:=a.eval x) h (fun z hz=>dD hrel hp hz);refine qJ hrel hp h1 (fun v hv=>?_) h4;simp only[execOp,hop];rw[iB,hv];simp
 case h_9 t parts hop=>
  obtain⟨f,h1,h2,h3,h4,u,h5,h6⟩:=arW (P:=P) hrel.rows hp (fun o t x=>dD hrel hp) h;refine UE hrel hp h1 h2 (w':=w) (u:=u) ?_ (eD _ _) h6;have harr:(parts.map fun(i,x)=>(i,a.eval x))=parts.toList.toArray.map fun x=>(x.1,a.eval x.2):=by apply xC;simp
  simp only[execOp,hop,harr];rw[iB,h5];simp
 case h_10 t len parts hop=>
  split at h
  .exact aqB hrel hp hop h
  obtain ⟨f,h1,h2,h3,h4,u,w',h5,h6,h7⟩:=aqt (P:=P) hrel.rows hp (fun o t x=>dD hrel hp) h (fun b hb=>hrel.V8 hb);refine UE hrel hp h1 h2 (u:=u) ?_ h6 h7;have harr:(parts.map fun(i,x)=>(i,a.eval x))=parts.toList.toArray.map fun x=>(x.1,a.eval x.2):=by apply xC;simp
  simp only[execOp,hop,harr];rw[iB,h5];simp
 case h_11 t hop=>exact as2 hrel hp hop h
 case h_12 t x hop=>exact avx hrel hp hop h
 case h_13 t x hop=>
  obtain⟨f,h1,h2,h3,h4,u,h5,h6⟩:=RN (P:=P) hrel.rows hrel.boxes hp (v:=a.eval x) h (fun z hz=>dD hrel hp hz);refine UE hrel hp h1 h2 (w':=w) (u:=u) ?_ (eD _ _) h6;simp only[execOp,hop];rw[iB,h5];simp
 case h_14 x hop=>
  obtain⟨h1,h2,h3,h4,h5⟩:=avc hrel.rows hp (v:=a.eval x) h (fun z hz=>dD hrel hp hz);refine qJ hrel hp h1 (m:=pure (a.eval x)) (fun v hv=>?_) ⟨_,by simp,h4⟩;simp at hv;subst hv;rcases h5 with⟨ad,h5⟩|⟨f,h5⟩<;>simp[execOp,hop,h5]
 case h_15 st x j hop=>
  obtain⟨h1,h2,h3,h4⟩:=asO (P:=P) (v:=a.eval x) hp h (fun z hz=>dD hrel hp hz);refine qJ hrel hp h1 (fun v hv=>?_) h4;simp only[execOp,hop];rw[iB,hv];simp
 case h_16 t x i hop=>
  obtain⟨h1,h2,h3⟩:=asJ (P:=P) (ki:=.i64) hrel.rows hp (v:=a.eval x) (vi:=a.eval i) h (fun z hz=>dD hrel hp hz) (fun k e hi=>GI hrel hp hi) ho;refine qJ hrel hp h1 (fun v hv=>?_) h3;simp only[execOp,hop];rw[iB,hv];simp
 case h_17 t x i hop=>
  obtain⟨h1,h2,h3⟩:=asI (P:=P) hp (v:=a.eval x) (vi:=a.eval i) h (fun z hz=>dD hrel hp hz) (fun k e hi=>GI hrel hp hi) ho;refine qJ hrel hp h1 (fun v hv=>?_) h3;simp only[execOp,hop];rw[iB,hv];simp
 case h_18 t x lo hi hop=>
  obtain⟨h1,h2,h3⟩:=asg (P:=P) hrel.rows hp (a:=a) (fun o k e he=>by have:=dD hrel hp he;rwa[jB]at this) (v:=a.eval x) h (fun z hz=>dD hrel hp hz) ho;refine qJ hrel hp h1 (fun v hv=>?_) h3;simp only[execOp,hop];rw[iB];have hv':(Instr.sliceAt t (a.eval x) (lo.map a.eval) (hi.map a.eval) (Option.map a.eval none)).run P w=.ok v w:=hv;rw[hv'];simp
 case h_19 t l c hop=>exact atQ hrel hp hop h ho
 case h_20 b args ts hop=>
  have FE:∀(m:Sem Value),(∀consts,builtin b ts o.type consts (args.map a.eval)=(do pure (.value (<-m))))->∀v,m.run P w=.ok v w->(execOp a.eval o).run P w=.ok (.value v) w:=by
   intro m hm v hv;simp only[execOp,hop,resolve,invoke];simp only[iB,Sem.run_pure,sG,hm,hv]
  unfold xR at h;split at h
  next x t hargs hts=>obtain⟨al⟩:=args;obtain⟨tl⟩:=ts;simp only at hargs hts;subst hargs hts;obtain⟨h1,h2,h3,h4⟩:=ave (P:=P) (ty:=o.type) hrel.rows hp (v:=a.eval x) h (fun z hz=>dD hrel hp hz);exact qJ hrel hp h1 (FE _ (fun _=>by simp[builtin])) h4
  next x y hargs=>obtain⟨al⟩:=args;simp only at hargs;subst hargs;obtain⟨h1,h2,h3,h4⟩:=aze (P:=P) (ts:=ts) (ty:=o.type) (v:=a.eval x) (u:=a.eval y) h (fun z hz=>dD hrel hp hz) (fun z hz=>dD hrel hp hz);exact qJ hrel hp h1 (FE _ (fun _=>by simp[builtin])) h4
  next x y hargs=>obtain⟨al⟩:=args;simp only at hargs;subst hargs;obtain⟨h1,h2,h3,h4⟩:=azf (P:=P) (ts:=ts) (ty:=o.type) (v:=a.eval x) (u:=a.eval y) h (fun z hz=>dD hrel hp hz) (fun z hz=>dD hrel hp hz);exact qJ hrel hp h1 (FE _ (fun _=>by simp[builtin])) h4
  simp at h
 case h_21 f args ts hop=>
  split at h
  .simp at h
  split at h
  .exact aus hrel hp hop h ho
  exact auq hrel hp hop h ho
 case h_22=>exact awf hrel hp h ho
theorem aeE{l:List String}(h:Instr.least l=none):l=[]:=by
 cases l with
 |nil=>rfl
 |cons s r=>simp[Instr.least]at h
theorem adF(want:Array (String×TypeId))(got:Array Method):Instr.missingMethod want got=none↔((want.toList.filter fun x=> !got.any fun m=>m.name==x.1&&m.sig==x.2).map (·.1))=[]:=by
 unfold Instr.missingMethod;generalize ((want.toList.filter fun x=> !got.any fun m=>m.name==x.1&&m.sig==x.2).map (·.1))=l;constructor
 .intro h;simp only[List.partition_eq_filter_filter]at h;cases h1:Instr.least (l.filter (not∘fun x=>x.contains (Char.ofNat 46)))with
  |some m=>rw[h1]at h;simp at h
  |none=>
   rw[h1]at h;have h2:Instr.least ((l.filter fun x=>x.contains (Char.ofNat 46)).map fun id=>(id.splitOn ".").getLastD id)=none:=by simpa using h
   have e1:=aeE h1;have e2:=aeE h2;rw[List.map_eq_nil_iff]at e2;cases l with
   |nil=>rfl
   |cons s r=>
    exfalso;have hs:s∈s::r:=List.mem_cons_self;rw[List.filter_eq_nil_iff]at e1 e2;have a1:=e1 s hs;have a2:=e2 s hs;simp only[Function.comp]at a1;cases hb:s.contains (Char.ofNat 46)<;>simp_all
 intro h;subst h;rfl
theorem au3{out:Out}(hrel:aZ P N0 w0 ρ S hv a w)(hp:bF ρ pc)(h:yw P o pc (S.ev P)=some out)(ho:fG P ρ S.nv out.ji):
  out.jq=[]/\out.nv=0/\∃v,(execOp a.eval o).run P w=.ok (.value v) w/\dA w (NN N0 w0.own ρ S.jd hv) ρ S.jd hv out.x v:=by
 unfold yw at h;split at h
 .rename_i t x hop;split at h
  .rename_i s e d he hu;split at h
   .simp at h
   .rename_i hni;injection h with h;subst h;obtain⟨us,h1,h2,_⟩:=dD hrel hp he;refine⟨rfl,rfl,.iface t (a.eval x),?_,by rw[h2];exact Sm h1⟩;have hm:(Instr.makeInterface t (a.eval x)).run P w=.ok (.iface t (a.eval x)) w:=by
     unfold Instr.makeInterface;simp only[iB,dR hu,sG];cases d<;>first|rfl|simp at hni
    simp only[execOp,hop];rw[iB,hm];rfl
  simp at h
 .rename_i name first captured hop
  split at h
  .rename_i x hf hc;split at h
   .rename_i t s e he;injection h with h;subst h;obtain⟨us,h1,h2⟩:=Hq (dD hrel hp he);obtain⟨fl⟩:=first
    obtain⟨cl⟩:=captured;simp only at hf hc;subst hf hc;exact⟨rfl,rfl,_,by simp[execOp,hop,Instr.makeFunc,h1];rfl,us,by simp⟩
   .simp at h
  simp at h
 .rename_i x hop;split at h
  .rename_i t s name he;split at h
   next hm=>injection h with h;subst h;obtain⟨us,h1⟩:=dD hrel hp he;obtain⟨f,hf⟩:=o9.1 hm;refine⟨rfl,rfl,a.eval x,?_,us,h1⟩;have hn:∃n,P.types.size+Made.depth=n+1:=⟨P.types.size+99,rfl⟩;obtain⟨n,hn⟩:=hn;simp only[execOp,hop,h1];simp[hn,ash hf]
   .simp at h
  simp at h
 .rename_i t i hop;split at h
  .rename_i s p he;injection h with h;subst h;obtain⟨q,h1,h2⟩:=dD hrel hp he;refine⟨rfl,rfl,.bool (decide (q<(s.eval ρ).jk.length)),?_,?_⟩
   .simp only[execOp,hop,h2];split<;>rename_i hlt<;>simp[Instr.extract,hlt]
   rw[nD];simp[E.eval,mY,h1]
  next s p he=>injection h with h;subst h;obtain⟨q,h1,h2⟩:=dD hrel hp he;have h3:=ho.1 hp;simp[E.eval,mY,h1]at h3;refine⟨rfl,rfl,.int .i64 q,?_,by rw[jB,h1]⟩;rw[aC h3]at h2;simp[execOp,hop,h2,Instr.extract]
  next s p he=>injection h with h;subst h;obtain⟨q,h1,h2⟩:=dD hrel hp he;have h3:=ho.1 hp;simp[E.eval,mY,h1]at h3;refine⟨rfl,rfl,_,?_,by rw[jB]⟩;rw[aC h3]at h2;simp[execOp,hop,h2,Instr.extract,E.eval,h1]
  next he=>injection h with h;subst h;obtain⟨z,h2⟩:=dD hrel hp he;exact⟨rfl,rfl,z,by simp[execOp,hop,h2,Instr.extract],trivial⟩
  next he=>injection h with h;subst h;obtain⟨z,h2⟩:=dD hrel hp he;exact⟨rfl,rfl,.bool false,by simp[execOp,hop,h2,Instr.extract],by rw[nD];rfl⟩
  simp at h
 .rename_i x xt ty ok hop;have hzero:((P.info? ty).bind (·.zero)).isSome=true->∃z,(zeroValue ty).run P w=.ok z w:=by
   intro hz;obtain⟨z,hz⟩:=o9.1 hz;obtain⟨i,hi,hz⟩:=vV.1 hz;exact⟨z,by simp[zeroValue,typeInfo,hi,hz]⟩
  split at h
  .rename_i t s e want he hu;obtain⟨us,h1,h2⟩:=Hq (dD hrel hp he);split at h
   .rename_i hall;have hmm:∃i,P.info? t=some i/\Instr.missingMethod want i.methods=none:=by
     unfold hasAll at hall;obtain⟨i,hi,hm⟩:=Aj.1 hall;exact⟨i,hi,(adF _ _).2 (List.isEmpty_iff.1 hm)⟩
    obtain⟨i,hi,hm⟩:=hmm;cases ok with
    |true=>
     simp only[eO,dP]at h;subst h;refine⟨rfl,rfl,.tuple #[.iface t (s.mk us),.bool true],?_,⟨⟨[.iface t (s.mk us),.bool true],rfl,⟨_,_,rfl,Hr (Sm (bs:=S.jd) (hv:=hv) h2),_,_,rfl,⟨[.bool true],rfl,by simp[Sh.mk,Sh.isAgg]⟩,rfl⟩⟩,?_⟩⟩
     .simp[execOp,hop,h1,Instr.typeAssert,dR hu,run_typeInfo hi,hm]
     intro x hx vs;simp only[iR,List.not_mem_nil,pz]at hx;rcases hx with rfl|rfl
     .cases e<;>trivial
     trivial
    |false=>
     simp only[xk,pY,dP]at h;subst h;refine⟨rfl,rfl,.iface t (s.mk us),?_,Sm h2⟩;simp[execOp,hop,h1,Instr.typeAssert,dR hu,run_typeInfo hi,hm]
   .rename_i hall;have hmm:∃i m,P.info? t=some i/\Instr.missingMethod want i.methods=some m:=by
     unfold hasAll at hall;obtain⟨i,hi,hm⟩:=Aj.1 hall;cases hx:Instr.missingMethod want i.methods with
     |none=>rw[(adF _ _).1 hx]at hm;cases hm
     |some m=>exact⟨i,m,hi,hx⟩
    obtain⟨i,m,hi,hm⟩:=hmm;split at h
    next hok=>simp only[bB]at hok;injection h with h;subst h;obtain⟨z,hz⟩:=hzero hok.2;refine⟨rfl,rfl,.tuple #[z,.bool false],?_,z,rfl⟩;simp[execOp,hop,h1,Instr.typeAssert,dR hu,run_typeInfo hi,hm,hok.1,hz]
    .simp at h
   simp at h
  .rename_i t s e d hne he hu;obtain⟨us,h1,h2⟩:=Hq (dD hrel hp he);have hni:∀want,d≠.interface want:=by
    intro want hd;subst hd;first|exact hne _ hu|exact hne _ rfl hu|exact hne _ _ _ _ he hu|exact hne _ rfl rfl|exact hne _ rfl
   split at h
   .rename_i ht;subst ht;have hrd:bV w (NN N0 w0.own ρ S.jd hv) s (s.mk us) ((yB e).eval ρ):=⟨us,by rw[afK];exact h2,rfl⟩;cases ok with
    |true=>
     simp only[eO,dP]at h;subst h;refine⟨rfl,rfl,.tuple #[s.mk us,.bool true],?_,⟨⟨[s.mk us,.bool true],rfl,⟨_,_,rfl,hrd,_,_,rfl,⟨[.bool true],rfl,by simp[Sh.mk,Sh.isAgg]⟩,rfl⟩⟩,?_⟩⟩
     .simp only[execOp,hop,h1,Instr.typeAssert];simp only[iB,dR hu,sG];cases d<;>first|(simp;done)|exact absurd rfl (hni _)
     intro x hx vs;simp only[iR,List.not_mem_nil,pz]at hx;rcases hx with rfl|rfl
     .exact Nn _ _ _
     trivial
    |false=>
     simp only[xk,pY,dP]at h;subst h;refine⟨rfl,rfl,s.mk us,?_,zP hrd (Nn _ _)⟩;simp only[execOp,hop,h1,Instr.typeAssert];simp only[iB,dR hu,sG];cases d<;>first|(simp;done)|exact absurd rfl (hni _)
   .rename_i ht;split at h
    next hok=>simp only[bB]at hok;injection h with h;subst h;obtain⟨z,hz⟩:=hzero hok.2;refine⟨rfl,rfl,.tuple #[z,.bool false],?_,z,rfl⟩;simp only[execOp,hop,h1,Instr.typeAssert];simp only[iB,dR hu,sG];cases d<;>first|(simp[ht,hok.1,hz];done)|exact absurd rfl (hni _)
    simp at h
  .rename_i e d he hu;have h1:=TY (dD hrel hp he);split at h
   next hok=>simp only[bB]at hok;injection h with h;subst h;obtain⟨z,hz⟩:=hzero hok.2;refine⟨rfl,rfl,.tuple #[z,.bool false],?_,z,rfl⟩;simp only[execOp,hop,h1,Instr.typeAssert];simp only[iB,dR hu,sG];cases d<;>(simp[hok.1,hz];done)
   .simp at h
  simp at h
 .rename_i op xt x y yt hop;have e2:a.eval (.const .nilIface)=.nilIface:=rfl;split at h
  next t s e l he hu=>injection h with h;subst h;obtain⟨us,h1,h2⟩:=Hq (dD hrel hp he);refine⟨rfl,rfl,.bool false,?_,by rw[nD];rfl⟩;simp only[execOp,hop,h1,e2];simp[eqGuard,binOp,afN hu]
  next t s e l he hu=>injection h with h;subst h;obtain⟨us,h1,h2⟩:=Hq (dD hrel hp he);refine⟨rfl,rfl,.bool true,?_,by rw[nD];rfl⟩;simp only[execOp,hop,h1,e2];simp[eqGuard,binOp,afN hu]
  next e l he hu=>injection h with h;subst h;have h1:=TY (dD hrel hp he);refine⟨rfl,rfl,.bool true,?_,by rw[nD];rfl⟩;simp only[execOp,hop,h1,e2];simp[eqGuard,binOp,agT hu]
  next e l he hu=>injection h with h;subst h;have h1:=TY (dD hrel hp he);refine⟨rfl,rfl,.bool false,?_,by rw[nD];rfl⟩;simp only[execOp,hop,h1,e2];simp[eqGuard,binOp,agT hu]
  simp at h
 .rename_i c x y hop;split at h
  .rename_i hc;have h1:=dD hrel hp hc;rw[nD]at h1;split at h
   next z hz=>injection h with h;subst h;exact⟨rfl,rfl,a.eval x,by simp[execOp,hop,h1,asBool,E.eval],dD hrel hp hz⟩
   simp at h
  .rename_i hc;have h1:=dD hrel hp hc;rw[nD]at h1;split at h
   next z hz=>injection h with h;subst h;exact⟨rfl,rfl,a.eval y,by simp[execOp,hop,h1,asBool,E.eval],dD hrel hp hz⟩
   simp at h
  .simp at h
 simp at h
theorem aqF(h:GN pc=true)(hp:bF ρ pc):False:=by
 unfold GN at h;rw[List.any_eq_true]at h;obtain⟨⟨e,b⟩,hm,hx⟩:=h;have:=hp _ hm;cases e<;>simp_all[E.eval]
theorem awg{out:Out}(hrel:aZ P N0 w0 ρ S hv a w)(hp:bF ρ pc)(h:iI P cfg o pc (S.ev P) S.rb S.nv=some out)(ho:fG P ρ S.nv out.ji):
  o.wp P a w (fun a' w'=>∃hv',aZ P N0 w0 ρ {tmps:=eT S.tmps o.dst ⟨pc,out.x⟩,jd:=bP out.jq S.jd,nv:=S.nv+out.nv} hv' a' w') Q:=by
 unfold iI at h;split at h
 next hf=>exact(aqF hf hp).elim
 split at h
 next out' hx=>injection h with h;subst h;obtain⟨h1,h2,v,h3,h4⟩:=au3 hrel hp hx ho;rw[h1];exact fin_step h3 hrel h4 hp
 exact au9 hrel hp h ho
end
section
variable{P:Program}{N0:Nat->Prop}{w0:Wb}{ρ:List C}{S:SS}{hv:Nat->Value}{a:Act}{w:World}
theorem aZ.write(h:aZ P N0 w0 ρ S hv a w){r:Nat}{lb lb':LB}(hr:S.jd[r]?=some ⟨lb,false,[]⟩)(hl:iq ⟨lb,false,[]⟩=true)(hl':iq ⟨lb',false,[]⟩=true){g:Nat}(hg:dI (hv r)=some g){w':World}
  (h1:w'.os=w.os) (h2:w'.tape=w.tape) (h3:w'.output=w.output) (hs:w'.heap.size=w.heap.size) (hk:∀k,k≠g->w'.heap[k]?=w.heap[k]?)
  (hle:lU ρ S.jd (S.jd.set r ⟨lb',false,[]⟩) hv hv)
  (hok:(∀b,NN N0 w0.own ρ S.jd hv b->b<w.heap.size->w'.heap[b]?=w.heap[b]?/\NN N0 w0.own ρ (S.jd.set r ⟨lb',false,[]⟩) hv b)->
   tT w' w0.own (NN N0 w0.own ρ (S.jd.set r ⟨lb',false,[]⟩) hv) ρ (S.jd.set r ⟨lb',false,[]⟩) hv r lb'):
  aZ P N0 w0 ρ {S with jd:=S.jd.set r ⟨lb',false,[]⟩} hv a w':=by
 have hrl:r<S.jd.length:=(zy.1 hr).1;have hbg:=(h.lt hr hl (bE ρ) hg).2;have hkk:∀b,NN N0 w0.own ρ S.jd hv b->b<w.heap.size->w'.heap[b]?=w.heap[b]?/\NN N0 w0.own ρ (S.jd.set r ⟨lb',false,[]⟩) hv b:=by
  intro b hb _;refine⟨hk b fun e=>hb.2 r _ hr hl rfl (bE ρ) (by rw[e];exact hg),hb.1,fun r' k hr' hl2 hf hp=>?_⟩;by_cases hrr:r'=r
  .subst hrr;exact hb.2 r' _ hr hl rfl (bE ρ)
  .rw[fZ (fun e=>hrr e.symm)]at hr';exact hb.2 r' k hr' hl2 hf hp
 refine h.step hle (h.below.after h1 h2 h3 (by omega) fun k _ hn=>hk k fun e=>hn (by rw[e];exact hbg)) (by omega) hkk ?_ ?_
 .intro r' k hr' hp;by_cases hrr:r'=r
  .subst hrr;rw[nV hrl]at hr';injection hr' with hr';subst hr';exact hok hkk
  .rw[fZ (fun e=>hrr e.symm)]at hr';by_cases hlk:iq k=true
   .exact (h.jd r' k hr' hp).le (by omega) hkk hle rfl fun g' hg'=>hk g' fun e=>by
     subst e;exact h.dist r r' _ k g' hr hr' (fun e=>hrr e.symm) hl hlk (bE ρ) hp hg hg'
   .obtain ⟨Ml,f2,p2⟩:=k;cases Ml with
    |none=>trivial
    |dead=>trivial
    |row s e=>exact absurd rfl hlk
    |box cs=>exact absurd rfl hlk
    |mp _ _ _=>exact absurd rfl hlk
    |sit _ _=>exact absurd rfl hlk
 intro r1 r2 k1 k2 g' hr1 hr2 hne hl1 hl2 hp1 hp2;have jm:∀(q:Nat) (k:aL),(S.jd.set r ⟨lb',false,[]⟩)[q]?=some k->iq k=true->bF ρ k.dO->∃k0,S.jd[q]?=some k0/\iq k0=true/\bF ρ k0.dO:=by
  intro q k hq hlk hpk;by_cases hqr:q=r
  .subst hqr;exact⟨_,hr,hl,bE ρ⟩
  .rw[fZ (fun e=>hqr e.symm)]at hq;exact⟨k,hq,hlk,hpk⟩
 obtain⟨k3,a1,a2,a3⟩:=jm r1 k1 hr1 hl1 hp1;obtain⟨k4,b1,b2,b3⟩:=jm r2 k2 hr2 hl2 hp2;exact h.dist r1 r2 k3 k4 g' a1 b1 hne a2 b2 a3 b3
theorem aiO{bs:List aL}{r:Nat}{s:Sh}{e e':E}{f:Bool}(hr:bs[r]?=some ⟨.row s e,f,[]⟩)(hl:(e.eval ρ).toList.length=(e'.eval ρ).toList.length):lU ρ bs (bs.set r ⟨.row s e',false,[]⟩) hv hv:=by
 have hrl:r<bs.length:=(zy.1 hr).1;refine⟨fun q hq=>⟨?_,rfl⟩,fun q s' e2 p hq h=>?_,fun q cs p hq h=>?_⟩
 .by_cases hqr:q=r
  .subst hqr;exact⟨_,nV hrl,by simp⟩
  obtain ⟨k,h1,h2⟩:=hq;exact⟨k,by rw[fZ (fun e=>hqr e.symm)];exact h1,h2⟩
 .by_cases hqr:q=r
  .subst hqr;simp[eu,hrl]at h;obtain⟨rfl,rfl,rfl⟩:=h;exact⟨e,by simp[eu,hr],hl⟩
  .unfold eu at h |-;rw[fZ (fun e=>hqr e.symm)]at h;exact⟨e2,h,rfl⟩
 by_cases hqr:q=r
 .subst hqr;simp[gZ,hrl]at h
 unfold gZ at h |-;rw[fZ (fun e=>hqr e.symm)]at h;exact⟨cs,h⟩
theorem ajK{bs:List aL}{r:Nat}{cs cs':List SX}{f:Bool}(hr:bs[r]?=some ⟨.box cs,f,[]⟩):lU ρ bs (bs.set r ⟨.box cs',false,[]⟩) hv hv:=by
 have hrl:r<bs.length:=(zy.1 hr).1;refine⟨fun q hq=>⟨?_,rfl⟩,fun q s' e2 p hq h=>?_,fun q cs2 p hq h=>?_⟩
 .by_cases hqr:q=r
  .subst hqr;exact⟨_,nV hrl,by simp⟩
  obtain ⟨k,h1,h2⟩:=hq;exact⟨k,by rw[fZ (fun e=>hqr e.symm)];exact h1,h2⟩
 .by_cases hqr:q=r
  .subst hqr;simp[eu,hrl]at h
  .unfold eu at h |-;rw[fZ (fun e=>hqr e.symm)]at h;exact⟨e2,h,rfl⟩
 by_cases hqr:q=r
 .subst hqr;simp[gZ,hrl]at h;obtain⟨rfl,rfl⟩:=h;exact⟨cs,by simp[gZ,hr]⟩
 unfold gZ at h |-;rw[fZ (fun e=>hqr e.symm)]at h;exact⟨cs2,h⟩
theorem adv{t:TypeId}{s:Sh}(hf:kL P t s=true){us:List Value}(hl:us.length=s.size)(h1:∀u∈us,u.oneCell'=true/\∀cs,u≠.agg cs){g off:Nat}{cur:Array Value}{ty:TypeId}
  (hg:w.heap[g]?=some (.cells cur ty (0,0))) (hle:off+us.length<=cur.size):
  (Instr.storeAt t (.pointer (some ⟨g,off,none⟩)) (s.mk us)).run P w=.ok () (w.setRow g (cur.toList.take off++us++cur.toList.drop (off+us.length)).toArray):=by
 have hc:=NV hl fun u hu=>(h1 u hu).2;have hsz:(s.mk us).cells.size=s.size:=by rw[<-Jh,hc,hl]
 have hst:=run_storeCells_at P g off ty us 0 cur w hg (by simpa using hle) (fun v hv=>(h1 v hv).1);simp only[qE]at hst;simp[Instr.storeAt,Instr.sureAddr,storeVar,run_sizeOf hf,hsz,hc,hst]
theorem aiv{N:Nat->Prop}:∀{s:Sh}{j:Nat}{vs us:List Value}{c x:C}{s':Sh}{off:Nat},Rd w N s vs c->s.eG j=some (s',off)->Rd w N s' us x->
  Rd w N s (vs.take off++(us++vs.drop (off+s'.size))) (c.rH j x)
 | .jc a b,0,vs,us,c,x,s',off,h,hf,hu=>by
  simp[Sh.eG]at hf;obtain⟨rfl,rfl⟩:=hf;obtain⟨h0,va,vb,rfl,h1,h2⟩:=h;refine⟨h0,us,vb,?_,by simpa[C.rH,C.hd]using hu,h2.zG h0 (by simp[C.rH,C.tl])⟩;simp[<-h1.length]
 | .jc a b,j+1,vs,us,c,x,s',off,h,hf,hu=>by
  simp[Sh.eG]at hf;obtain⟨s1,o',hf,rfl,rfl⟩:=hf;obtain⟨h0,va,vb,rfl,h1,h2⟩:=h;have ih:=aiv h2 hf hu;refine⟨h0,va,vb.take o'++(us++vb.drop (o'+s1.size)),?_,by simpa[C.rH,C.hd]using h1,ih.zG h0 (by simp[C.rH,C.tl])⟩;rw[<-h1.length,su,List.take_append,F5];simp;rw[mO (by omega),DZ (by omega)];simp
 | .int _,_,_,_,_,_,_,_,_,hf,_| .bool,_,_,_,_,_,_,_,_,hf,_| .str,_,_,_,_,_,_,_,_,hf,_| .sl _,_,_,_,_,_,_,_,_,hf,_| .je,_,_,_,_,_,_,_,_,hf,_=>by simp[Sh.eG]at hf
theorem xP(f:List Nat)(bs:List aL):og f bs=bP (f.map .bM) bs:=by
 unfold og bP;rw[List.foldl_map];rfl
theorem Nh{r:Nat}:∀(f:List Nat) (bs:List aL),r∉f->(bP (f.map .bM) bs)[r]?=bs[r]?
 | [],_,_=>rfl
 |q::f,bs,h=>by
  have h1:=Nh (r:=r) f (bs.modify q fun b=> {b with iK:=true}) (fun hm=>h (List.mem_cons_of_mem _ hm));have h2:(bs.modify q fun b=> {b with iK:=true})[r]?=bs[r]?:=by
   have hne:¬q=r:=by rintro rfl;exact h (by simp)
   simp[hne]
  exact h1.trans h2
theorem axu{B:Nat->Prop}{et:TypeId}{size:Nat}{v:Value}{n:Nat}{xs:List Value}{g:Nat}(h:w.jL B et size v n xs)(hg:dI v=some g):
  ∃cap cur,v=.slice (some ⟨g,0,none⟩) n cap/\B g/\w.heap[g]?=some (.cells cur et (0,0))/\n<=cap/\cap<=maxLen/\cur.size=cap*size/\cur.toList.take (n*size)=xs:=by
 obtain⟨_,h2⟩:=h;rcases h2 with⟨h2,_⟩|⟨g',cap,cur,h3,h4⟩
 .rw[h2]at hg;cases hg
 rw[h3]at hg;injection hg with hg;subst hg;exact⟨cap,cur,h3,h4⟩
theorem adu{g:Nat}{cs:Array Value}{k:Nat}(h:k≠g):(w.setRow g cs).heap[k]?=w.heap[k]?:=setRow_other w g k cs h
theorem axc(cur us:List Value)(off n:Nat)(h:off+us.length<=n)(hn:n<=cur.length):
  (cur.take off++us++cur.drop (off+us.length)).take n=(cur.take n).take off++(us++(cur.take n).drop (off+us.length)):=by
 have hX:(cur.take off++us).length=off+us.length:=by simp;omega
 rw[List.take_append,mO (l:=cur.take off++us) (by rw[hX];exact h),hX,List.take_take,u6 (by omega),List.drop_take,gJ]
theorem afj(h:aZ P N0 w0 ρ S hv a w){r:Nat}{es:Sh}{e e':E}(hr:S.jd[r]?=some ⟨.row es e,false,[]⟩){g:Nat}(hg:dI (hv r)=some g){off:Nat}{us:List Value}
  (hl:(e.eval ρ).toList.length=(e'.eval ρ).toList.length)
  (hxs:∀xs,cZ w (NN N0 w0.own ρ S.jd hv) es xs (e.eval ρ).toList->xs.length=(e.eval ρ).toList.length*es.size->off+us.length<=xs.length/\
   cZ w (NN N0 w0.own ρ S.jd hv) es (xs.take off++(us++xs.drop (off+us.length))) (e'.eval ρ).toList):
  ∃cur ty,w.heap[g]?=some (.cells cur ty (0,0))/\off+us.length<=cur.size/\
   aZ P N0 w0 ρ {S with jd:=S.jd.set r ⟨.row es e',false,[]⟩} hv a (w.setRow g (cur.toList.take off++us++cur.toList.drop (off+us.length)).toArray):=by
 obtain⟨et,xs,hown,hrd,hsz⟩:=h.rows.row r es e [] (by simp[eu,hr]) (bE ρ);obtain⟨cap,cur,h1,h2,h3,h4,h5,h6,h7⟩:=axu hown hg;obtain⟨g1,g2⟩:=hxs xs hrd hrd.length;have hcl:(e.eval ρ).toList.length*es.size<=cur.size:=by rw[h6];exact Cc _ h4
 have hxl:xs.length=(e.eval ρ).toList.length*es.size:=hrd.length;refine⟨cur,et,h3,by omega,?_⟩;refine h.write hr rfl rfl hg rfl rfl rfl (by simp) (fun k hk=>adu hk) (aiO hr hl) fun hkk=>?_;refine⟨et,xs.take off++(us++xs.drop (off+us.length)),⟨?_,.inr ⟨g,cap,_,?_,h2,setRow_heap w g cur _ et _ h3,by omega,h5,?_,?_⟩⟩,g2.mono (by simp) hkk,hsz⟩
 .rw[<-hl,<-hxl];simp;omega
 .rw[<-hl];exact h1
 .simp only[ni,cO,jV,lW,Jh];omega
 rw[<-hl];simp only[];rw[axc cur.toList us off _ (by omega) (by simpa using hcl),h7]
theorem ZM(e i x:E):(((E.set e i x).eval ρ)).toList.length=(e.eval ρ).toList.length:=by simp[E.eval]
end
section
variable{P:Program}{cfg:fF}{N0:Nat->Prop}{w0:Wb}{ρ:List C}{S:SS}{hv:Nat->Value}{a:Act}{w:World}{o:Oper}{Q:Exit->Act->World->Prop}
theorem TR{w':World}{hv':Nat->Value}{bs':List aL}(hr:(execOp a.eval o).run P w=.ok .skip w')(hrel:aZ P N0 w0 ρ {S with jd:=bs'} hv' a w'):
  o.wp P a w (fun a' w'=>∃hv',aZ P N0 w0 ρ {S with tmps:=eT S.tmps o.dst ⟨[],.none⟩,jd:=bs'} hv' a' w') Q:=by
 unfold Oper.wp;rw[hr];exact⟨hv',hrel.put o.dst [] .none undef (fun _=>trivial) (fun _=>rfl)⟩
theorem anT(hrel:aZ P N0 w0 ρ S hv a w){t:TypeId}{ad x:Operand}(hop:o.op=.store t ad x){r:Nat}{es:Sh}{e i:E}{fo:Nat}{s:Sh}{eG:Option Nat}{y:SX}{bs':List aL}
  (hr:S.jd[r]?=some ⟨.row es e,false,[]⟩) (hf:kL P t s=true) (h:JW S.jd r es e i fo s eG y=some bs')
  (ha:dA w (NN N0 w0.own ρ S.jd hv) ρ S.jd hv (.ref r i fo s eG) (a.eval ad)) (hx:dA w (NN N0 w0.own ρ S.jd hv) ρ S.jd hv y (a.eval x)):
  o.wp P a w (fun a' w'=>∃hv',aZ P N0 w0 ρ {S with tmps:=eT S.tmps o.dst ⟨[],.none⟩,jd:=bs'} hv' a' w') Q:=by
 unfold JW at h;split at h
 .rename_i s' ex f hd;split at h
  .rename_i hok;simp only[bB,dQ,zl]at hok;obtain⟨rfl,hnf⟩:=hok;have hnf:r∉f:=by simpa using hnf
   obtain⟨us,d1,d2,d3⟩:=AU hrel.rows (bE ρ) hd hx;have hfz:=hrel.FV f;rw[<-xP]at hfz;have hr2:(og f S.jd)[r]?=some ⟨.row es e,false,[]⟩:=by rw[xP,Nh f _ hnf];exact hr
   obtain⟨hkn,hrow,_⟩:=ha;obtain⟨oi,g,ho,hlt,hg,hp,LU⟩:=hrow es e [] (by simp[eu,hr]) (bE ρ);have m1:∀b,NF (NN N0 w0.own ρ S.jd hv) hv f b->b<w.heap.size->w.heap[b]?=w.heap[b]?/\NN N0 w0.own ρ (og f S.jd) hv b:=fun b hb _=>⟨rfl,by rw[xP];exact hrel.nf hb (EA (bE ρ) hd)⟩;have d1':=d1.mono (aS _) m1;have hone:=Dk d1;have fin:∀e' off,off=oi*es.size+fo->(e.eval ρ).toList.length=(e'.eval ρ).toList.length->
     (∀xs,cZ w (NN N0 w0.own ρ (og f S.jd) hv) es xs (e.eval ρ).toList->xs.length=(e.eval ρ).toList.length*es.size->off+us.length<=xs.length/\
      cZ w (NN N0 w0.own ρ (og f S.jd) hv) es (xs.take off++(us++xs.drop (off+us.length))) (e'.eval ρ).toList)->bs'=(og f S.jd).set r ⟨.row es e',false,[]⟩->
     o.wp P a w (fun a' w'=>∃hv',aZ P N0 w0 ρ {S with tmps:=eT S.tmps o.dst ⟨[],.none⟩,jd:=bs'} hv' a' w') Q:=by
    intro e' off hoff hl hxs hbs;obtain⟨cur,ty,q1,q2,q3⟩:=afj hfz hr2 hg hl hxs;subst hbs;refine TR (S:=S) ?_ q3;have hst:=adv (P:=P) hf d1.length hone q1 q2;rw[hoff]at hst;simp[execOp,hop,hp,d2,hst,hoff]
   obtain⟨c,hc⟩:∃c,(e.eval ρ).toList[oi]?=some c:=⟨_,nL hlt⟩;have hmul:(oi+1)*es.size<=(e.eval ρ).toList.length*es.size:=Cc _ hlt;rw[pq,Ay]at hmul;split at h
   .obtain ⟨rfl,rfl⟩:=LU;simp at h;subst h;refine fin (.set e i ex) (oi*s.size) (by simp) (ZM e i ex).symm (fun xs hxs hxl=>⟨by rw[d1.length];omega,?_⟩) rfl;have:=hxs.set hlt d1';rw[d1.length];simpa[E.eval,ho,pq]using this
   .rename_i j;split at h
    .rename_i hj;simp at h;subst h;refine fin (.set e i (.rH j (.idx e i) ex)) (oi*es.size+fo) rfl (ZM e i _).symm (fun xs hxs hxl=>?_) rfl;have hat:=hxs.at_ hc;obtain⟨_,f2,_⟩:=KX hat hj;have hfs:=aiv hat hj d1';have hel:((xs.drop (oi*es.size)).take es.size).length=es.size:=by simp;omega
     have hb:fo+s.size<=es.size:=by rw[hel]at f2;exact f2
     refine⟨by rw[d1.length];omega,?_⟩;have:=hxs.set hlt hfs;simp only[E.eval,ho,dF,C.lF,List.getD,hc,F8];rw[d1.length];have e1:xs.take (oi*es.size+fo)++(us++xs.drop (oi*es.size+fo+s.size))=
       xs.take (oi*es.size)++((((xs.drop (oi*es.size)).take es.size).take fo++(us++((xs.drop (oi*es.size)).take es.size).drop (fo+s.size)))++xs.drop ((oi+1)*es.size)):=by
      rw[List.take_take,u6 (by omega),List.drop_take,xq];rw[List.take_add];simp only[gJ];congr 3
      have e2:xs.drop (oi*es.size+fo+s.size)=(xs.drop (oi*es.size+(fo+s.size))).take (es.size-(fo+s.size))++(xs.drop (oi*es.size+(fo+s.size))).drop (es.size-(fo+s.size)):=by
       rw[D5,su]
      rw[e2,xq];congr 2
      rw[pq,Ay];omega
     rw[e1];exact this
    next hne=>exact absurd LU hne
  .simp at h
 simp at h
theorem Km{N:Nat->Prop}{bs:List aL}:∀{l m:List SX}{us vs:List Value},gV w N ρ bs hv l us->gV w N ρ bs hv m vs->gV w N ρ bs hv (l++m) (us++vs)
 | [],_,_,_,h,h'=>by simp only[gV]at h;subst h;simpa using h'
 |_::_,_,_,_,⟨v,r,h1,h2,h3⟩,h'=>⟨v,r++_,by rw[h1];rfl,h2,Km h3 h'⟩
theorem Tn{N:Nat->Prop}{bs:List aL}:∀{cs:List SX}{vs:List Value}(j:Nat),gV w N ρ bs hv cs vs->gV w N ρ bs hv (cs.take j) (vs.take j)
 | [],_,j,h=>by simp only[gV]at h;subst h;simp[gV]
 |_::_,_,0,h=>by simp[gV]
 |_::_,_,j+1,⟨v,r,h1,h2,h3⟩=>by
  subst h1;exact⟨v,_,rfl,h2,Tn j h3⟩
theorem anU(hrel:aZ P N0 w0 ρ S hv a w){t:TypeId}{ad x:Operand}(hop:o.op=.store t ad x){r:Nat}{cs:List SX}{i:E}{fo:Nat}{s:Sh}{eG:Option Nat}{y:SX}{bs':List aL}
  (hr:S.jd[r]?=some ⟨.box cs,false,[]⟩) (hf:kL P t s=true) (h:JY S.jd r cs fo s y=some bs')
  (ha:dA w (NN N0 w0.own ρ S.jd hv) ρ S.jd hv (.ref r i fo s eG) (a.eval ad)) (hx:dA w (NN N0 w0.own ρ S.jd hv) ρ S.jd hv y (a.eval x)):
  o.wp P a w (fun a' w'=>∃hv',aZ P N0 w0 ρ {S with tmps:=eT S.tmps o.dst ⟨[],.none⟩,jd:=bs'} hv' a' w') Q:=by
 obtain⟨hkn,_,tZ⟩:=ha;obtain⟨g,hg,hp⟩:=tZ cs [] (by simp[gZ,hr]) (bE ρ);obtain⟨g',bt,arr,h1,h2,h3,h4⟩:=hrel.boxes r cs [] (by simp[gZ,hr]) (bE ρ);rw[h1]at hg;injection hg with hg;subst hg;have hal:=ad5 h4;have hgb:dI (hv r)=some g':=by rw[h1];rfl
 have fin:∀cs' us,a.eval x=s.mk us->us.length=s.size->(∀u∈us,u.oneCell'=true/\∀cs,u≠.agg cs)->fo+s.size<=cs.length->
   gV w (NN N0 w0.own ρ S.jd hv) ρ S.jd hv cs' (arr.toList.take fo++us++arr.toList.drop (fo+us.length))->bs'=S.jd.set r ⟨.box cs',false,[]⟩->
   o.wp P a w (fun a' w'=>∃hv',aZ P N0 w0 ρ {S with tmps:=eT S.tmps o.dst ⟨[],.none⟩,jd:=bs'} hv' a' w') Q:=by
  intro cs' us hev hl hone hle hrd hbs;subst hbs;have hle2:fo+us.length<=arr.size:=by rw[hl];simp at hal;omega
  have hst:=adv (P:=P) hf hl hone h3 hle2;refine TR (S:=S) (hv':=hv) (w':=w.setRow g' (arr.toList.take fo++us++arr.toList.drop (fo+us.length)).toArray) (by simp[execOp,hop,hp,hev,hst]) ?_;refine hrel.write hr rfl rfl hgb rfl rfl rfl (by simp) (fun k hk=>adu hk) (ajK hr) fun hkk=>?_;exact⟨g',bt,_,h1,h2,setRow_heap w g' arr _ bt _ h3,by simpa using hrd.le (by simp) hkk (ajK hr)⟩
 unfold JY at h;split at h
 .rename_i s' ex;split at h
  next hok=>simp only[bB,dQ]at hok;obtain⟨rfl,hle⟩:=hok;simp at h;obtain⟨us,d1,d2,d3⟩:=hx;refine fin _ us d2 d1.length (Dk d1) hle ?_ h.symm;rw[gJ,d1.length];exact Km (Tn fo h4) (Km (JR d1 d3) (ND _ h4))
  simp at h
 .rename_i r' n;split at h
  .rename_i es e hro;split at h
   .rename_i hok;simp only[bB,dQ]at hok;obtain⟨rfl,hle⟩:=hok;simp at h;obtain⟨p,hin,hpp⟩:=uw (bE ρ) hro;obtain⟨hv1,_⟩:=hx.2 _ _ p hin hpp;obtain⟨et,xs,hown,_,_⟩:=hrel.rows.row r' _ _ p hin hpp;have hone:(a.eval x).oneCell'=true/\∀cs,a.eval x≠.agg cs:=by
     rw[hv1];rcases vF hown with⟨h5,_,_⟩|⟨g,cap,h5,_⟩<;>rw[h5]<;>simp[Value.oneCell']
    refine fin _ [a.eval x] (by simp[Sh.mk,Sh.isAgg]) rfl (by simpa using hone) (by simp[Sh.size];omega) ?_ h.symm;have e1:cs.set fo (.full r' n)=cs.take fo++([.full r' n]++cs.drop (fo+1)):=by rw[List.set_eq_take_append_cons_drop,aC hle];rfl
    rw[e1,gJ];exact Km (Tn fo h4) (Km ⟨_,[],rfl,hx,rfl⟩ (ND _ h4))
   simp at h
  .simp at h
 simp at h
theorem ase(hrel:aZ P N0 w0 ρ S hv a w){t:TypeId}{ad x:Operand}(hop:o.op=.store t ad x){bs':List aL}(h:KG P S.jd t (S.ev P [] ad 0) (S.ev P [] x t)=some bs'):
  o.wp P a w (fun a' w'=>∃hv',aZ P N0 w0 ρ {S with tmps:=eT S.tmps o.dst ⟨[],.none⟩,jd:=bs'} hv' a' w') Q:=by
 unfold KG at h;split at h
 .rename_i r i fo s eG y had gq;split at h
  .rename_i hf;split at h
   next es e hb=>exact anT hrel hop hb hf h (dD hrel (bE ρ) had) (dD hrel (bE ρ) gq)
   next cs hb=>exact anU hrel hop hb hf h (dD hrel (bE ρ) had) (dD hrel (bE ρ) gq)
   simp at h
  .simp at h
 simp at h
theorem ahO{x:SX}{v:Value}{w':World}{hv':Nat->Value}{bs':List aL}(hr:(execOp a.eval o).run P w=.ok (.value v) w')(hrel:aZ P N0 w0 ρ {S with jd:=bs'} hv' a w')
  (hx:dA w' (NN N0 w0.own ρ bs' hv') ρ bs' hv' x v):
  o.wp P a w (fun a' w'=>∃hv',aZ P N0 w0 ρ {S with tmps:=eT S.tmps o.dst ⟨[],x⟩,jd:=bs'} hv' a' w') Q:=by
 unfold Oper.wp;rw[hr];exact⟨hv',hrel.put o.dst [] x v (fun _=>hx) (fun h=>absurd (bE ρ) h)⟩
theorem aiV{bs:List aL}{r:Nat}{lb lb':LB}{f:Bool}(hr:bs[r]?=some ⟨lb,f,[]⟩)(h1:(∃k s e,lb'=.mp k s e)\/∃s p,lb'=.sit s p):lU ρ bs (bs.set r ⟨lb',false,[]⟩) hv hv:=by
 have hrl:r<bs.length:=(zy.1 hr).1;refine⟨fun q hq=>⟨?_,rfl⟩,fun q s' e2 p hq h=>?_,fun q cs p hq h=>?_⟩
 .by_cases hqr:q=r
  .subst hqr;exact⟨_,nV hrl,by rcases h1 with⟨_,_,_,rfl⟩|⟨_,_,rfl⟩<;>simp⟩
  obtain ⟨k,h1,h2⟩:=hq;exact⟨k,by rw[fZ (fun e=>hqr e.symm)];exact h1,h2⟩
 .by_cases hqr:q=r
  .subst hqr;rcases h1 with⟨_,_,_,rfl⟩|⟨_,_,rfl⟩<;>simp[eu,hrl]at h
  .unfold eu at h |-;rw[fZ (fun e=>hqr e.symm)]at h;exact⟨e2,h,rfl⟩
 by_cases hqr:q=r
 .subst hqr;rcases h1 with⟨_,_,_,rfl⟩|⟨_,_,rfl⟩<;>simp[gZ,hrl]at h
 unfold gZ at h |-;rw[fZ (fun e=>hqr e.symm)]at h;exact⟨cs,h⟩
theorem aif{bs:List aL}{r:Nat}:lU ρ bs (bs.set r ⟨.dead,false,[]⟩) hv hv:=by
 refine⟨fun q hq=>⟨?_,rfl⟩,fun q s' e2 p hq h=>?_,fun q cs p hq h=>?_⟩
 .obtain ⟨k,h1,h2⟩:=hq;by_cases hqr:q=r
  .subst hqr;have hrl:=(zy.1 h1).1;exact⟨_,nV hrl,by simp⟩
  exact ⟨k,by rw[fZ (fun e=>hqr e.symm)];exact h1,h2⟩
 .obtain ⟨k,h1,h2⟩:=hq;by_cases hqr:q=r
  .subst hqr;have hrl:=(zy.1 h1).1;simp[eu,hrl]at h
  .unfold eu at h |-;rw[fZ (fun e=>hqr e.symm)]at h;exact⟨e2,h,rfl⟩
 obtain ⟨k,h1,h2⟩:=hq;by_cases hqr:q=r
 .subst hqr;have hrl:=(zy.1 h1).1;simp[gZ,hrl]at h
 unfold gZ at h |-;rw[fZ (fun e=>hqr e.symm)]at h;exact⟨cs,h⟩
theorem aeC{α:Type}(a:Array α)(g k:Nat)(f:α->α):(a.modify g f)[k]?=if g=k then a[k]?.map f else a[k]?:=zn
theorem azh{a:Addr}{n:Nat}:(w.freeze a n).os=w.os:=by unfold World.freeze;split<;>rfl
theorem awr{a:Addr}{n:Nat}:(w.freeze a n).tape=w.tape:=by unfold World.freeze;split<;>rfl
theorem atN{a:Addr}{n:Nat}:(w.freeze a n).output=w.output:=by unfold World.freeze;split<;>rfl
theorem SE{a:Addr}{n:Nat}:(w.freeze a n).heap.size=w.heap.size:=by unfold World.freeze;split<;>simp
theorem aeD{g k o n:Nat}(h:k≠g):(w.freeze ⟨g,o,none⟩ n).heap[k]?=w.heap[k]?:=by
 unfold World.freeze;split
 .rfl
 simp only[];rw[aeC,zq (fun e=>h e.symm)]
theorem awt{g:Nat}{cur:Array Value}{et:TypeId}(hg:w.heap[g]?=some (.cells cur et (0,0))):(w.freeze ⟨g,cur.size,none⟩ 1).heap[g]?=some (.cells cur et (cur.size,cur.size+1)):=by
 unfold World.freeze;rw[zq (by decide)];simp only[];rw[aeC,aC rfl,hg];simp
theorem run_mark{P:Program}{t e et:TypeId}{g n c:Nat}{cur:Array Value}(ht:P.underlying t=some (.slice e))(he:P.underlying e=some (.int .u8))(hg:w.heap[g]?=some (.cells cur et (0,0))):
  (convert t t (.slice (some ⟨g,0,none⟩) n c)).run P w=.ok (.slice (some ⟨g,0,none⟩) n c) (w.freeze ⟨g,cur.size,none⟩ 1):=by
 have hsh:w.shape? g=some (et,cur.size):=by simp[World.shape?,hg]
 simp[convert,dR ht,dR he,markStringish,hsh]
theorem atO(hrel:aZ P N0 w0 ρ S hv a w){src:TypeId}{x:Operand}(hop:o.op=.convert src src x){s:Sh}{e:E}{r:Nat}(h:Dz P S.jd src (S.ev P [] x src)=some (s,e,r)):
  o.wp P a w (fun a' w'=>∃hv',aZ P N0 w0 ρ {S with tmps:=eT S.tmps o.dst ⟨[],.jo (.sl s) e⟩,jd:=S.jd.set r ⟨.dead,false,[]⟩} hv' a' w') Q:=by
 unfold Dz at h;split at h
 .rename_i et r' n ht hx;split at h
  .rename_i s' e1 e2 hu hr;simp only[dP,iG]at h;obtain⟨rfl,rfl,rfl⟩:=h;generalize he':E.cons e1 e2=e' at*;have hpos:(e'.eval ρ).toList.length≠0:=by rw[<-he'];simp[E.eval,C.toList]
   have hrow:S.jd[r']?=some ⟨.row s' e',false,[]⟩:=by
    unfold ownRow at hr;split at hr
    next hb=>simp at hr;obtain⟨rfl,rfl⟩:=hr;exact hb
    .simp at hr
   have hin:eu S.jd r'=some (s',e',[]):=by simp[eu,hrow]
   obtain⟨hkn,hx2⟩:=dD hrel (bE ρ) hx;obtain⟨hv1,_⟩:=hx2 _ _ _ hin (bE ρ);obtain⟨gM,xs,hown,hrd,hsz⟩:=hrel.rows.row r' s' e' [] hin (bE ρ);have hel:=AY ht;obtain⟨hxl,hown2⟩:=hown;have fin:∀(w':World),(convert src src (a.eval x)).run P w=.ok (a.eval x) w'->w'.os=w.os->w'.tape=w.tape->w'.output=w.output->w'.heap.size=w.heap.size->(∀k,dI (hv r')≠some k->w'.heap[k]?=w.heap[k]?)->
     Rd w' (NN N0 w0.own ρ (S.jd.set r' ⟨.dead,false,[]⟩) hv) (.sl s') [a.eval x] (e'.eval ρ)->
     o.wp P a w (fun a' w'=>∃hv',aZ P N0 w0 ρ {S with tmps:=eT S.tmps o.dst ⟨[],.jo (.sl s') e'⟩,jd:=S.jd.set r' ⟨.dead,false,[]⟩} hv' a' w') Q:=by
    intro w' hrun h1 h2 h3 h4 h5 h6;have hkk:∀b,NN N0 w0.own ρ S.jd hv b->b<w.heap.size->w'.heap[b]?=w.heap[b]?/\NN N0 w0.own ρ (S.jd.set r' ⟨.dead,false,[]⟩) hv b:=by
     intro b hb _;refine⟨h5 b (hb.2 r' _ hrow rfl rfl (bE ρ)),hb.1,fun q k hq hl hf hp=>?_⟩;by_cases hqr:q=r'
     .subst hqr;have hrl:=(zy.1 hrow).1;rw[nV hrl]at hq;injection hq with hq;subst hq;cases hl
     .rw[fZ (fun e=>hqr e.symm)]at hq;exact hb.2 q k hq hl hf hp
    refine ahO (w':=w') (v:=a.eval x) ?_ (hrel.step (hv':=hv) aif (hrel.below.after h1 h2 h3 (by omega) fun k hk hn=>h5 k fun hg=>hn (hrel.lt hrow rfl (bE ρ) hg).2) (by omega) hkk ?_ ?_) ⟨[a.eval x],h6,by simp[Sh.mk,Sh.isAgg],by rw[<-he'];exact RQ s' (.cons e1 e2) _⟩
    .simp only[execOp,hop];rw[iB,hrun];rfl
    .intro q k hq hp;by_cases hqr:q=r'
     .subst hqr;have hrl:=(zy.1 hrow).1;rw[nV hrl]at hq;injection hq with hq;subst hq;trivial
     rw[fZ (fun e=>hqr e.symm)]at hq;by_cases hl:iq k=true
     .exact (hrel.jd q k hq hp).le (by omega) hkk aif rfl fun g hg=>h5 g fun hg2=>hrel.dist q r' k _ g hq hrow hqr hl rfl hp (bE ρ) hg hg2
     obtain ⟨lb,f,p⟩:=k;cases lb with
     |none=>trivial
     |dead=>trivial
     |row s e=>exact absurd rfl hl
     |box cs=>exact absurd rfl hl
     |mp _ _ _=>exact absurd rfl hl
     |sit _ _=>exact absurd rfl hl
    .intro q1 q2 k1 k2 g hq1 hq2 hne hl1 hl2 hp1 hp2 hg1 hg2;have jm:∀(q:Nat) (k:aL),(S.jd.set r' ⟨.dead,false,[]⟩)[q]?=some k->iq k=true->S.jd[q]?=some k:=by
      intro q k hq hlk;by_cases hqr:q=r'
      .subst hqr;have hrl:=(zy.1 hrow).1;rw[nV hrl]at hq;injection hq with hq;subst hq;cases hlk
      .rwa[fZ (fun e=>hqr e.symm)]at hq
     exact hrel.dist q1 q2 k1 k2 g (jm q1 k1 hq1 hl1) (jm q2 k2 hq2 hl2) hne hl1 hl2 hp1 hp2 hg1 hg2
   rcases hown2 with⟨hnil,hzero⟩|⟨g,cap,cur,hvv,hB,hg,hle,hcm,hcs,htk⟩
   .exact absurd hzero hpos
   have hrow':=awt (w:=w) (cur:=cur) (et:=gM) hg;refine fin (w.freeze ⟨g,cur.size,none⟩ 1) ?_ (azh ..) (awr ..) (atN ..) (SE ..) (fun k hk=>aeD fun e=>hk (by rw[hvv,e];rfl)) ?_
   .rw[hv1,hvv];exact run_mark hel hu hg
   rw[hv1,hvv];refine⟨some ⟨g,0,none⟩,cap,rfl,hle,hcm,fun _=>⟨g,0,rfl,⟨.inr hB,fun q k hq hl hf hp hgk=>?_⟩,?_,wT.of_row (hrd.mono (by rw[SE];exact aS _) ?_) ?_⟩⟩
   .by_cases hqr:q=r'
    .subst hqr;have hrl:=(zy.1 hrow).1;rw[nV hrl]at hq;injection hq with hq;subst hq;cases hl
    rw[fZ (fun e=>hqr e.symm)]at hq;exact hrel.dist q r' k _ g hq hrow hqr hl rfl hp (bE ρ) hgk (by rw[hvv];rfl)
   .rw[SE];exact(iX.1 hg).1
   .intro b hb _;refine⟨aeD fun e=>hb.2 r' _ hrow rfl rfl (bE ρ) (by rw[hvv,e];rfl),hb.1,fun q k hq hl hf hp=>?_⟩;by_cases hqr:q=r'
    .subst hqr;have hrl:=(zy.1 hrow).1;rw[nV hrl]at hq;injection hq with hq;subst hq;cases hl
    .rw[fZ (fun e=>hqr e.symm)]at hq;exact hb.2 q k hq hl hf hp
   intro j u hu;rw[kD,cell_of_row _ g j cur gM _ hrow'];rw[<-htk,sw]at hu;split at hu
   .simpa using hu
   cases hu
  .simp at h
 simp at h
theorem atJ(hrel:aZ P N0 w0 ρ S hv a w){t:TypeId}{m k x:Operand}(hop:o.op=.mapUpdate t m k x){r:Nat}{b:aL}(h:Dy P S.jd t (S.ev P [] m t) (tu (S.ev P [] k 0)) (S.ev P [] x 0)=some (r,b)):
  o.wp P a w (fun a' w'=>∃hv',aZ P N0 w0 ρ {S with tmps:=eT S.tmps o.dst ⟨[],.none⟩,jd:=S.jd.set r b} hv' a' w') Q:=by
 unfold Dy at h;split at h
 .rename_i kk et r' k' ek s' ex ht hm hk hx;split at h
  .rename_i Mq s e hb;split at h
   .rename_i hok;simp only[bB,dQ,zl]at hok;obtain⟨⟨⟨rfl,rfl⟩,rfl⟩,hag⟩:=hok;simp only[dP,iG]at h;obtain⟨rfl,rfl⟩:=h;obtain⟨hkn,hv1⟩:=dD hrel (bE ρ) hm;obtain⟨g,l,h1,h2,h3,h4⟩:=hrel.jd r' _ hb (bE ρ);obtain⟨us,d1,d2,_⟩:=dD hrel (bE ρ) hx;have hkv:=GI hrel (bE ρ) hk;obtain⟨kt,hu1,hu2⟩:=afu ht;have hus:us=[a.eval x]:=by
     have hl:=d1.length;have hsz:s.size=1:=by cases s<;>first|rfl|cases hag
     rw[hsz]at hl;match us,hl with
     | [u],_=>rw[d2,ahE hag]
    subst hus;obtain⟨ob,g1,g2⟩:=h3.axn (P:=P) hu1 hu2 (ek.eval ρ).toInt (a.eval x);have hgb:dI (hv r')=some g:=by rw[h1];rfl
    refine TR (S:=S) (hv':=hv) (w':=w.putObj g ob) ?_ ?_
    .simp only[execOp,hop,hv1,h1,hkv];rw[iB,g1];rfl
    .refine hrel.write hb rfl rfl hgb rfl rfl rfl (by simp) (fun k hk=>World.putObj_heap_other hk) (aiV hb (.inl ⟨_,_,_,rfl⟩)) fun hkk=>?_;refine⟨g,_,h1,h2,g2,?_⟩;have hm1:∀{v:Value}{d:C},Rd w (NN N0 w0.own ρ S.jd hv) s [v] d->Rd (w.putObj g ob) (NN N0 w0.own ρ (S.jd.set r' ⟨.mp kk s (.lQ e ek ex),false,[]⟩) hv) s [v] d:=fun h=>h.mono (by simp) hkk;exact qQ.put _ (hm1 d1) (h4.imp fun _ _ h=>hm1 h)
   simp at h
  .simp at h
 simp at h
theorem atI(hrel:aZ P N0 w0 ρ S hv a w){it:Operand}(hop:o.op=.next it true){x:SX}{r:Nat}{b:aL}(h:Dx S.jd (S.ev P [] it 0)=some (x,r,b)):
  o.wp P a w (fun a' w'=>∃hv',aZ P N0 w0 ρ {S with tmps:=eT S.tmps o.dst ⟨[],x⟩,jd:=S.jd.set r b} hv' a' w') Q:=by
 unfold Dx at h;split at h
 .rename_i r' hi;split at h
  .rename_i s p hb;simp only[dP,iG]at h;obtain⟨rfl,rfl,rfl⟩:=h;obtain⟨hkn,hv1⟩:=dD hrel (bE ρ) hi;obtain⟨g,q,h1,h2,h3,h4⟩:=hrel.jd r' _ hb (bE ρ);have hgb:dI (hv r')=some g:=by rw[h1];rfl
   have hsz:(⟨(s.eval ρ).jk.toArray⟩:ByteArray).size=(s.eval ρ).jk.length:=by simp[ByteArray.size]
   have key:∃w':World,∃q':Nat,(Instr.next (.pointer (some ⟨g,0,none⟩)) true o.type).run P w=.ok (if q<(s.eval ρ).jk.length then .tuple #[.bool true,.int .i64 (q:Int),.int .i32 ((Utf8.decode ⟨(s.eval ρ).jk.toArray⟩ q).1:Nat)]else .tuple #[.bool false]) w'/\
     w'.os=w.os/\w'.tape=w.tape/\w'.output=w.output/\w'.heap.size=w.heap.size/\(∀k,k≠g->w'.heap[k]?=w.heap[k]?)/\w'.heap[g]?=some (.stringIter ⟨(s.eval ρ).jk.toArray⟩ q')/\
     ((E.ite (.cmp .lss p (.gG s)) (.raw .add p (.Ah s p)) p).eval ρ).toInt=(q':Int):=by
    by_cases hlt:q<(s.eval ρ).jk.length
    .refine ⟨w.iterAt g ⟨(s.eval ρ).jk.toArray⟩ (q+(Utf8.decode ⟨(s.eval ρ).jk.toArray⟩ q).2),_,?_,rfl,rfl,rfl,Lib.iterAt_size _ _ _ _,fun k hk=>Lib.iterAt_other w g k _ _ hk,Lib.iterAt_heap w g _ q _ h4,?_⟩
     .rw[Lib.run_next_any_at w g _ q o.type h4 (by rw[hsz];exact hlt),aC hlt]
     simp[E.eval,mY,h3,hlt,sU]
    .refine ⟨w,q,?_,rfl,rfl,rfl,rfl,fun _ _=>rfl,h4,?_⟩
     .rw[Lib.run_next_end_at w g _ q o.type h4 (by rw[hsz];exact hlt),zq hlt]
     .simp[E.eval,mY,h3,hlt]
   obtain⟨w',q',k1,k2,k3,k4,k5,k6,k7,k8⟩:=key;refine ahO (w':=w') ?_ (hrel.write hb rfl rfl hgb k2 k3 k4 k5 k6 (aiV hb (.inr ⟨_,_,rfl⟩)) fun hkk=>⟨g,q',h1,h2,k8,k7⟩) ⟨q,h3,rfl⟩;simp only[execOp,hop,hv1,h1];rw[iB,k1];rfl
  .simp at h
 simp at h
end
section
variable{P:Program}{w:World}
def ajL(P:Program)(w:World)(d2:TypeDesc)(x:Value)(s m:Nat)(z:Value)(news:List Value):Prop:=
 ((d2=.string\/∃e2,d2=.slice e2)/\(∀w',(Builtin.lenOf x).run P w'=.ok m w')/\∀k,(Builtin.firstCells s m x).run P {w with drawn:=k}=.ok news.toArray {w with drawn:=k})\/
 ∃q kx,d2=.int q/\x=.int kx (m:Int)/\news=(Builtin.zeroCells z.cells m).toList
theorem wrap_i64{n:Int}(h: -9223372036854775808<=n)(h2:n<9223372036854775808):IntKind.i64.wrap n=n:=by
 simp[IntKind.wrap,IntKind.bits,IntKind.signed];split<;>omega
theorem J2(P:Program)(w:World)(k:IntKind)(n:Int):(asInt (.int k n)).run P w=.ok n w:=by simp[asInt,asIntOf]
set_option maxHeartbeats 400000 in
theorem run_append_row{t t2 et ty:TypeId}{d2:TypeDesc}{i:TypeInfo}{z:Value}{s n m:Nat}{B:Nat->Prop}{gM:TypeId}{v x:Value}{xs news:List Value}
  (ht:P.underlying t=some (.slice et)) (ht2:P.underlying t2=some d2) (hi:P.info? et=some i) (hz:i.zero=some z) (hs:i.size=s) (hzs:z.cells.size=s) (hs0:0<s)
  (hown:w.jL B gM s v n xs) (hS:ajL P w d2 x s m z news)
  (hln:news.length=m*s) (h1:∀u∈news,u.oneCell'=true) (h63:n+m<=maxLen) (hby:(n+m)*i.bytes<=140737488355328) (hB:B w.heap.size):
  ∃v' w' Cw,(Builtin.append_ #[t,t2] ty #[v,x]).run P w=.ok v' w'/\w'.jL B Cw s v' (n+m) (xs++news)/\w.grownBy w' (dI v)/\(dI v'=dI v\/dI v'=some w.heap.size)/\w'.jL B gM s v n xs:=by
 have hlx:=hown.1;have hll:(xs++news).length=(n+m)*s:=by rw[cO,hlx,hln,pq]
 have hsm:n+m<=9223372036854775807:=by simp only[maxLen]at h63;omega
 have hbm:m*i.bytes<=140737488355328:=zw (Cc _ (Nat.le_add_left m n)) hby;have z1:IntKind.i64.wrap (m:Int)=m:=by
  have h9:= @wrap_i64 (m:Int) (by omega) (by omega);exact h9
 have z2:¬((m:Int)<0):=by omega
 have z3:¬(281474976710656<(m:Int)*(i.bytes:Int)):=by
  have:((m*i.bytes:Nat):Int)<=140737488355328:=by omega
  rw[Int.natCast_mul]at this;omega
 have grown:∀(old:Nat),
   (w.drew.alloc (.cells (xs.toArray++news.toArray++Builtin.zeroCells z.cells (grownCap w (n+m) old et-(n+m))) et)).jL B et s
    (.slice (some ⟨w.heap.size,0,none⟩) (n+m) (grownCap w (n+m) old et)) (n+m) (xs++news)/\
   ∀row,w.grownBy (w.drew.alloc (.cells (xs.toArray++news.toArray++Builtin.zeroCells z.cells (grownCap w (n+m) old et-(n+m))) et)) row:=by
  intro old;have hge:=grownCap_ge w (n+m) old et;have hcm:grownCap w (n+m) old et<=maxLen:=grownCap_le_maxLen w (n+m) old et h63;refine⟨⟨hll,.inr ⟨w.heap.size,_,_,rfl,hB,xB w.drew _,hge,hcm,?_,?_⟩⟩,fun row=>⟨rfl,rfl,rfl,by simp,fun k hk _=>lX w.drew _ k hk⟩⟩
  .simp only[Array.size_append,ni,size_zeroCells,hzs,hlx,hln,<-pq];congr 1
   omega
  .simp only[Array.toList_append,gJ];rw[<-gJ,<-hll];exact List.take_left
 have hgc:∀old,(Question.appendCap (n+m) old et).cut (w.tape w.drawn (Question.appendCap (n+m) old et))=grownCap w (n+m) old et:=fun _=>rfl;rcases hown.2 with⟨rfl,rfl⟩|⟨g,cap,cur,rfl,hbg,hg,hnc,hcm,hcs,htake⟩
 .have hx:xs=[]:=oC (by simpa using hlx);subst hx;by_cases hm:m=0
  .subst hm;have hn:news=[]:=oC (by simpa using hln);subst hn;refine⟨.slice none 0 0,w,et,?_,⟨by simp,.inl ⟨rfl,rfl⟩⟩,⟨rfl,rfl,rfl,aS _,fun _ _ _=>rfl⟩,.inl rfl,⟨by simp,.inl ⟨rfl,rfl⟩⟩⟩;rcases hS with⟨hd2,hlen,hsrc⟩|⟨q,kx,rfl,rfl,hnz⟩
   .have VK:(Builtin.firstCells s 0 x).run P w=.ok #[] w:=hsrc w.drawn;rcases hd2 with rfl|⟨e2,rfl⟩<;>simp[Builtin.append_,dR ht,dR ht2,sizeOf,typeInfo,hi,hs,hlen,VK]
   simp[Builtin.append_,dR ht,dR ht2,sizeOf,typeInfo,hi,J2,show IntKind.i64.wrap 0=0 from rfl]
  .have n2:¬(9223372036854775807<(m:Int)):=by omega
   have n3:¬(281474976710656<Builtin.nextslicecap m 0*i.bytes):=by rw[nextslicecap_zero (by omega)];simp at hby;omega
   obtain⟨g1,g2⟩:=grown 0;simp only[kD,iw]at g1 g2 hgc |-;refine⟨_,_,et,?_,g1,g2 _,.inr rfl,⟨by simp,.inl ⟨rfl,rfl⟩⟩⟩;have akq:(Builtin.firstCells s 0 (.slice none 0 0)).run P w.drew=.ok #[] w.drew:=run_firstCells_none w.drew _ _ _ _;rcases hS with⟨hd2,hlen,hsrc⟩|⟨q,kx,rfl,rfl,rfl⟩
   .have VJ:(Builtin.firstCells s m x).run P w.drew=.ok news.toArray w.drew:=hsrc (w.drawn+1);rcases hd2 with rfl|⟨e2,rfl⟩<;>simp[Builtin.append_,dR ht,dR ht2,sizeOf,typeInfo,hi,hs,hz,zeroValue,hlen,VJ,n2,n3,hm,Question.forced,newRow,hgc,akq]
   .have hm2:¬m*s=0:=by have:=Nat.mul_pos (show 0<m by omega) hs0;omega
    simp[Builtin.append_,dR ht,dR ht2,sizeOf,typeInfo,hi,hs,hz,zeroValue,J2,z1,z2,z3,n2,n3,hm,hm2,Question.forced,newRow,hgc,akq]
 by_cases hroom:n+m<=cap
 .have hfit:n*s+news.length<=cur.size:=by rw[hln,hcs,<-pq];exact Cc _ hroom
  have hst:=run_storeCells_at P g (n*s) gM news 0 cur w hg (by simpa using hfit) h1;simp only[qE]at hst;refine⟨.slice (some ⟨g,0,none⟩) (n+m) cap,w.setRow g (cur.toList.take (n*s)++news++cur.toList.drop (n*s+news.length)).toArray,gM,?_,⟨hll,.inr ⟨g,cap,_,rfl,hbg,setRow_heap w g cur _ gM _ hg,hroom,hcm,?_,?_⟩⟩,
   ⟨rfl,rfl,rfl,by simp,fun k _ hk=>setRow_other w g k _ (fun e=>hk (by simp[dI,e]))⟩,.inl rfl,⟨hlx,.inr ⟨g,cap,_,rfl,hbg,setRow_heap w g cur _ gM _ hg,hnc,hcm,?_,?_⟩⟩⟩
  .rcases hS with⟨hd2,hlen,hsrc⟩|⟨q,kx,rfl,rfl,rfl⟩
   .have VK:(Builtin.firstCells s m x).run P w=.ok news.toArray w:=hsrc w.drawn;rcases hd2 with rfl|⟨e2,rfl⟩<;>simp[Builtin.append_,dR ht,dR ht2,sizeOf,typeInfo,hi,hs,hlen,VK,hroom,addr_add,hst]
   by_cases hm:m=0
   .subst hm;have Qa:=hst;simp[Builtin.zeroCells]at Qa;simp[Builtin.append_,dR ht,dR ht2,sizeOf,typeInfo,hi,hs,J2,show IntKind.i64.wrap 0=0 from rfl,show n<=cap by omega,addr_add,Qa,Builtin.zeroCells]
   have hm2:¬m*s=0:=by have:=Nat.mul_pos (show 0<m by omega) hs0;omega
   simp[Builtin.append_,dR ht,dR ht2,sizeOf,typeInfo,hi,hs,hz,zeroValue,J2,z1,z2,z3,hm2,hroom,addr_add,hst]
  .simp only[ni,cO,jV,lW,Jh];omega
  .rw[htake,<-hll];exact List.take_left
  .simp only[ni,cO,jV,lW,Jh];omega
  .have hle:n*s<=cur.toList.length:=by rw[Jh,hcs];exact Cc _ hnc
   rw[htake,gJ,<-hlx];exact List.take_left
 have n2:¬(9223372036854775807<(n:Int)+(m:Int)):=by omega
 have n3:¬(281474976710656<Builtin.nextslicecap (n+m) cap*i.bytes):=by have:=growslice_fits (by omega:cap<n+m) hby;omega
 have holds:pG w g 0 xs:=by
  rcases vF hown with⟨h0,_,_⟩|⟨g',cap',h0,_,_,_,_,hc⟩
  .cases h0
  .injection h0 with h0;injection h0 with h0;injection h0 with h0;subst h0;exact hc
 have hold:(Builtin.firstCells s n (.slice (some ⟨g,0,none⟩) n cap)).run P w.drew=.ok xs.toArray w.drew:=
  run_firstCells_some (P:=P) w.drew s n ⟨g,0,none⟩ n cap xs hlx (fun j v hv=>by rw[addr_add];exact holds j v hv)
 obtain⟨g1,g2⟩:=grown cap;refine⟨_,_,et,?_,g1,g2 _,.inr rfl,⟨hlx,.inr ⟨g,cap,cur,rfl,hbg,?_,hnc,hcm,hcs,htake⟩⟩⟩;rotate_left
 .rw[<-hg];exact lX w.drew _ g (iX.1 hg).1
 rcases hS with⟨hd2,hlen,hsrc⟩|⟨q,kx,rfl,rfl,rfl⟩
 .have VJ:(Builtin.firstCells s m x).run P w.drew=.ok news.toArray w.drew:=hsrc (w.drawn+1);rcases hd2 with rfl|⟨e2,rfl⟩<;>simp[Builtin.append_,dR ht,dR ht2,sizeOf,typeInfo,hi,hs,hz,zeroValue,hlen,VJ,hroom,n2,n3,Question.forced,newRow,hgc,hold];all_goals (congr 2;apply xC;simp)
 have hm2:¬m*s=0:=by have:=Nat.mul_pos (show 0<m by omega) hs0;omega
 simp[Builtin.append_,dR ht,dR ht2,sizeOf,typeInfo,hi,hs,hz,zeroValue,J2,z1,z2,z3,hm2,hroom,n2,n3,Question.forced,newRow,hgc,hold]
end
section
variable{P:Program}{cfg:fF}{N0:Nat->Prop}{w0:Wb}{ρ:List C}{S:SS}{hv:Nat->Value}{a:Act}{w:World}{o:Oper}{Q:Exit->Act->World->Prop}
theorem att(hrel:aZ P N0 w0 ρ S hv a w){y:SX}{v:Value}{s:Sh}{m:E}{f:List Nat}(h:lg S.rb [] y=some (.sl s,m,f))(hx:dA w (NN N0 w0.own ρ S.jd hv) ρ S.jd hv y v):
  ∃ad cap news,v=.slice ad (m.eval ρ).toList.length cap/\cZ w (NN N0 w0.own ρ S.jd hv) s news (m.eval ρ).toList/\
   ((m.eval ρ).toList≠[]->∃b off,ad=some ⟨b,off,none⟩/\b<w.heap.size/\pG w b off news):=by
 have hdat:=H8 (AU hrel.rows (bE ρ) h hx);obtain⟨ad,cap,h1,h2,h3,h4⟩:=hdat;simp only[kE,lC]at h1;unfold lg at h;split at h
 .rename_i s1 e1;simp at h;obtain⟨rfl,rfl,rfl⟩:=h;obtain⟨ad,cap,g1,g2,g3,g4⟩:=H8 hx;simp only[kE,lC]at g1;by_cases hne:(e1.eval ρ).toList=[]
  .exact ⟨ad,cap,[],g1,by rw[hne];rfl,fun h=>absurd hne h⟩
  obtain ⟨b,off,rfl,hb,hlt,hra⟩:=g4 hne;obtain⟨xs,hxs,hc⟩:=hra.row;exact⟨_,cap,xs,g1,hxs,fun _=>⟨b,off,rfl,hlt,hc⟩⟩
 .rename_i r n;split at h
  .rename_i s' e' hr;simp at h;obtain⟨rfl,rfl,rfl⟩:=h;obtain⟨p,hin,hpp⟩:=uw (bE ρ) hr;obtain⟨et,xs,hown,hrd,_⟩:=hrel.rows.row r _ _ p hin hpp;obtain⟨hv1,_⟩:=hx.2 _ _ p hin hpp;rw[Si]at*;refine⟨ad,cap,xs,h1,hrd,fun hne=>?_⟩;rcases vF hown with⟨_,h6,_⟩|⟨g,cap',h5,_,_,hlt,_,hc⟩
   .exact absurd (oC h6) hne
   .rw[hv1,h5]at h1;injection h1 with h1;exact⟨g,0,h1.symm,hlt,hc⟩
  simp at h
 .rename_i r off n;split at h
  .rename_i s' e' hr;simp at h;obtain⟨rfl,rfl,rfl⟩:=h;obtain⟨p,hin,hpp⟩:=uw (bE ρ) hr;obtain⟨et,xs,hown,hrd,_⟩:=hrel.rows.row r _ _ p hin hpp;obtain⟨o1,m1,ho,hm,hle,a1,c1,hv1,_,_,ha⟩:=hx.2 _ _ p hin hpp;have hev:((E.sub e' off (.raw .add off n)).eval ρ).toList=((e'.eval ρ).toList.take (o1+m1)).drop o1:=by
    simp only[E.eval,sU,C.lF,C.toInt_int,ho,hm];congr 2
   refine⟨ad,cap,(xs.take ((o1+m1)*s'.size)).drop (o1*s'.size),h1,by rw[hev];exact(hrd.take (o1+m1)).drop o1,fun hne=>?_⟩;rw[hev]at hne;have hm0:0<m1:=by
    rcases Nat.eq_zero_or_pos m1 with h0|h0
    .subst h0;exact absurd (oC (by simp)) hne
    .exact h0
   obtain⟨g,hg,rfl⟩:=ha hm0;rw[hv1]at h1;injection h1 with h1 _ _;rcases vF hown with⟨h5,_,_⟩|⟨g',cap',h5,_,_,hlt,_,hc⟩
   .rw[h5]at hg;cases hg
   .rw[h5]at hg;injection hg with hg;subst hg;refine⟨g',o1*s'.size,h1.symm,hlt,fun j u hu=>?_⟩;rw[yK,sw]at hu;split at hu
    .have:=hc _ u hu;simpa using this
    .cases hu
  simp at h
 .simp at h
 .split at h<;>simp at h
 simp at h
theorem aej(hrel:aZ P N0 w0 ρ S hv a w){t:TypeId}{x:Operand}{y:SX}{s:Sh}{m:E}{f:List Nat}(h:zY P S.jd t y=some (s,m,f))(hx:dA w (NN N0 w0.own ρ S.jd hv) ρ S.jd hv y (a.eval x)):
  ∃d2 news,P.underlying t=some d2/\(d2=.string\/∃e2,d2=.slice e2)/\
   cZ w (NN N0 w0.own ρ S.jd hv) s news (m.eval ρ).toList/\(∀w',(Builtin.lenOf (a.eval x)).run P w'=.ok (m.eval ρ).toList.length w')/\
   ∀(w':World) k,(∀b,b<w.heap.size->w'.heap[b]?=w.heap[b]?)->k<=(m.eval ρ).toList.length->(Builtin.firstCells s.size k (a.eval x)).run P w'=.ok (news.take (k*s.size)).toArray w':=by
 unfold zY at h;split at h
 .rename_i e ht;simp at h;obtain⟨rfl,rfl,rfl⟩:=h;rw[uD]at hx;have hsz:ByteArray.size ⟨(e.eval ρ).jk.toArray⟩=(e.eval ρ).jk.length:=by show(e.eval ρ).jk.toArray.size=_;simp
  refine⟨.string,(e.eval ρ).jk.map fun b=> .int .u8 b.toNat,ht,.inl rfl,?_,fun w'=>?_,fun w' k _ hk=>?_⟩
  .rw[NH];simp[E.eval,ofBytes,Function.comp_def]
  .rw[hx];simp[Builtin.lenOf,hsz,E.eval,ofBytes]
  rw[hx];have he:=ada (e.eval ρ).jk 0 k;simp only[xu]at he;simp[Builtin.firstCells,he,Sh.size,List.map_take]
 .rename_i ys e2 ht;split at h
  .rename_i s' e f' hd;simp at h;obtain⟨rfl,rfl,rfl⟩:=h;obtain⟨ad,cap,news,h1,h2,h3⟩:=att hrel hd hx;rw[h1];have hlen:∀w',(Builtin.lenOf (.slice ad (e.eval ρ).toList.length cap)).run P w'=.ok (e.eval ρ).toList.length w':=fun w'=>by simp[Builtin.lenOf]
   refine⟨_,news,ht,.inr ⟨_,rfl⟩,h2,hlen,fun w' k hw hk=>?_⟩;by_cases hne:(e.eval ρ).toList=[]
   .rw[hne]at hk;have hk0:k=0:=by simpa using hk
    subst hk0;cases ad with
    |none=>simp[Builtin.firstCells]
    |some ad=>simp[Builtin.firstCells,loadCells,loadCellsFrom]
   obtain ⟨b,off,rfl,hlt,hc⟩:=h3 hne;have hle:k*s'.size<=news.length:=by rw[h2.length];exact Cc _ hk
   have hl:(news.take (k*s'.size)).length=k*s'.size:=by simp;omega
   refine run_firstCells_some (P:=P) w' s'.size k ⟨b,off,none⟩ _ cap _ hl fun j v hv=>?_;rw[addr_add,World.cell?_of_block (w:=w) (a:=⟨b,off+j,none⟩) (hw b hlt)];rw[sw]at hv;split at hv
   .exact hc j v hv
   cases hv
  .simp at h
 simp at h
theorem auV(hrel:aZ P N0 w0 ρ S hv a w){et t:TypeId}{x:Operand}{y:SX}{s:Sh}{m:E}{f:List Nat}(h:uP P S.jd et t y=some (s,m,f))(hx:dA w (NN N0 w0.own ρ S.jd hv) ρ S.jd hv y (a.eval x))
  {i:TypeInfo}{z:Value}(hi:P.info? et=some i) (hz:i.zero=some z) (hs0:0<s.size):
  ∃d2 news,P.underlying t=some d2/\cZ w (NN N0 w0.own ρ S.jd hv) s news (m.eval ρ).toList/\((m.eval ρ).toList.length<=140737488355328->ajL P w d2 (a.eval x) s.size (m.eval ρ).toList.length z news):=by
 unfold uP at h;split at h
 .rename_i kx e q ht;split at h
  .rename_i s' hs';split at h
   .rename_i ze hze;simp only[dP,iG]at h;obtain⟨rfl,rfl,rfl⟩:=h;obtain⟨i',z',hi',hz',hr,_⟩:=JL (w:=w) (N:=NN N0 w0.own ρ S.jd hv) (ρ:=ρ) hze;rw[hi]at hi';injection hi' with hi';subst hi';rw[hz]at hz';injection hz' with hz';subst hz';obtain⟨vs,e1,e2,_⟩:=hx;simp only[Rd]at e1;subst e1;have hl:z.cells.size=s'.size:=by have:=hr.length;simpa using this
    obtain⟨n,hn,hbad⟩:∃n:Nat,((E.rep (.ite (.cmp .geq e (.int 0)) e (.int 1152921504606846976)) ze).eval ρ).toList=List.replicate n (ze.eval ρ)/\(n<=140737488355328->(n:Int)=(e.eval ρ).toInt):=by
     refine⟨(if mY .geq (e.eval ρ).toInt 0=true then e.eval ρ else .int 1152921504606846976).toInt.toNat,rfl,fun hb=>?_⟩;by_cases hp:mY .geq (e.eval ρ).toInt 0=true
     .rw[aC hp];have:(e.eval ρ).toInt≥0:=ng hp;omega
     .rw[zq hp,C.toInt_int]at hb;exact absurd hb (by decide)
    rw[hn];refine⟨_,(Builtin.zeroCells z.cells n).toList,ht,?_,fun hb=> .inr ⟨q,kx,rfl,?_,by rw[qV]⟩⟩
    .have:=QN hr hs0 n;simpa[Builtin.zeroCells,hl]using this
    .rw[qV]at hb |-;rw[e2,hbad hb];rfl
   simp at h
  .simp at h
 obtain ⟨d2,news,q1,q2,q3,q4,q5⟩:=aej hrel h hx;have htk:news.take ((m.eval ρ).toList.length*s.size)=news:=mO (by rw[q3.length];omega);refine⟨d2,news,q1,q3,fun _=> .inl ⟨q2,q4,fun k=>?_⟩⟩;have:=q5 {w with drawn:=k} (m.eval ρ).toList.length (fun _ _=>rfl) (aS _);rwa[htk]at this
theorem Tp{N:Nat->Prop}{s:Sh}:∀{l:List C}{xs:List Value},cZ w N s xs l->∀u∈xs,u.oneCell'=true
 | [],_,h=>by simp only[cZ]at h;subst h;simp
 |_::_,_,⟨u,r,h1,h2,h3⟩=>by
  subst h1;intro x hx;rcases zx.1 hx with hx|hx
  .exact (Dk h2 x hx).1
  exact Tp h3 x hx
theorem Ng{bs:List aL}{d:Nat}(h:tq bs d=true):∃k,bs[d]?=some k/\k.lb=.none:=by
 unfold tq at h;split at h
 next f p hb=>exact⟨_,hb,rfl⟩
 cases h
theorem aZ.grows(h:aZ P N0 w0 ρ S hv a w){r d:Nat}{s:Sh}{e:E}(hr:S.jd[r]?=some ⟨.row s e,false,[]⟩)(hd:∃k,S.jd[d]?=some k/\k.lb=.none){v':Value}{w':World}{lb:LB}(hl:iq ⟨lb,false,[]⟩=true)
  (hg:w.grownBy w' (dI (hv r))) (hvg:∀g,dI v'=some g->dI (hv r)=some g\/w.heap.size<=g)
  (hok:(∀b,NN N0 w0.own ρ S.jd hv b->b<w.heap.size->w'.heap[b]?=w.heap[b]?/\NN N0 w0.own ρ ((S.jd.set r ⟨.dead,false,[]⟩).set d ⟨lb,false,[]⟩) (upd hv d v') b)->
   tT w' w0.own (NN N0 w0.own ρ ((S.jd.set r ⟨.dead,false,[]⟩).set d ⟨lb,false,[]⟩) (upd hv d v')) ρ ((S.jd.set r ⟨.dead,false,[]⟩).set d ⟨lb,false,[]⟩) (upd hv d v') d lb):
  aZ P N0 w0 ρ {S with jd:=(S.jd.set r ⟨.dead,false,[]⟩).set d ⟨lb,false,[]⟩} (upd hv d v') a w':=by
 have hrl:r<S.jd.length:=(zy.1 hr).1;obtain⟨k0,hk0,hn0⟩:=hd;have hdl:d<S.jd.length:=(zy.1 hk0).1;have hrd:r≠d:=by rintro rfl;rw[hr]at hk0;injection hk0 with hk0;subst hk0;cases hn0
 have aCz:((S.jd.set r ⟨.dead,false,[]⟩).set d ⟨lb,false,[]⟩)[d]?=some ⟨lb,false,[]⟩:=nV (by simpa using hdl);have wY:((S.jd.set r ⟨.dead,false,[]⟩).set d ⟨lb,false,[]⟩)[r]?=some ⟨.dead,false,[]⟩:=by rw[fZ hrd.symm];exact nV hrl
 have vT:∀q,q≠r->q≠d->((S.jd.set r ⟨.dead,false,[]⟩).set d ⟨lb,false,[]⟩)[q]?=S.jd[q]?:=fun q h1 h2=>by rw[fZ h2.symm,fZ h1.symm]
 have hkk:∀b,NN N0 w0.own ρ S.jd hv b->b<w.heap.size->w'.heap[b]?=w.heap[b]?/\NN N0 w0.own ρ ((S.jd.set r ⟨.dead,false,[]⟩).set d ⟨lb,false,[]⟩) (upd hv d v') b:=by
  intro b hb' hlt;have hbr:=hb'.2 r _ hr rfl rfl (bE ρ);refine⟨hg.block b hlt (fun e=>hbr e.symm),hb'.1,fun q k hq hlk hf hp=>?_⟩;by_cases rU:q=d
  .subst rU;simp only[upd,eO];intro hc;rcases hvg b hc with h1|h1
   .exact hbr h1
   omega
  .simp only[upd,zq rU];by_cases hqr:q=r
   .subst hqr;rw[wY]at hq;simp only[dP]at hq;subst hq;simp[iq]at hlk
   .rw[vT q hqr rU]at hq;exact hb'.2 q k hq hlk hf hp
 have hne:∀q,known S.jd q->q≠d:=by
  rintro q ⟨k,h1,h2⟩ rfl;rw[hk0]at h1;injection h1 with h1;subst h1;exact h2 hn0
 have hle:lU ρ S.jd ((S.jd.set r ⟨.dead,false,[]⟩).set d ⟨lb,false,[]⟩) hv (upd hv d v'):=by
  refine⟨fun q hq=>⟨?_,by simp[upd,hne q hq]⟩,fun q s' e' p hq h'=>?_,fun q cs p hq h'=>?_⟩
  .by_cases hqr:q=r
   .subst hqr;exact⟨_,wY,by simp⟩
   obtain ⟨k,h1,h2⟩:=hq;exact⟨k,by rw[vT q hqr (hne q ⟨k,h1,h2⟩)];exact h1,h2⟩
  .by_cases hqr:q=r
   .subst hqr;simp[eu,wY]at h'
   refine ⟨e',?_,rfl⟩;unfold eu at h' |-;rwa[vT q hqr (hne q hq)]at h'
  .by_cases hqr:q=r
   .subst hqr;simp[gZ,wY]at h'
   .refine ⟨cs,?_⟩;unfold gZ at h' |-;rwa[vT q hqr (hne q hq)]at h'
 have hbel:tJ P w0 w':=h.below.after hg.os hg.tape hg.output hg.size fun k hk hn=>hg.block k hk fun e=>hn (h.lt hr rfl (bE ρ) e.symm).2;refine h.step hle hbel hg.size hkk ?_ ?_
 .intro q k hq hp;by_cases rU:q=d
  .subst rU;rw[aCz]at hq;injection hq with hq;subst hq;exact hok hkk
  .by_cases hqr:q=r
   .subst hqr;rw[wY]at hq;injection hq with hq;subst hq;trivial
   .rw[vT q hqr rU]at hq;by_cases hlk:iq k=true
    .refine (h.jd q k hq hp).le hg.size hkk hle (by simp[upd,rU]) fun g' hg'=>hg.block g' (h.lt hq hlk hp hg').1 fun e=>?_;exact h.dist r q _ k g' hr hq (fun e=>hqr e.symm) rfl hlk (bE ρ) hp e.symm hg'
    .obtain ⟨Ml,f2,p2⟩:=k;cases Ml with
     |none=>trivial
     |dead=>trivial
     |row s e=>exact absurd rfl hlk
     |box cs=>exact absurd rfl hlk
     |mp _ _ _=>exact absurd rfl hlk
     |sit _ _=>exact absurd rfl hlk
 have one:∀q k g',((S.jd.set r ⟨.dead,false,[]⟩).set d ⟨lb,false,[]⟩)[q]?=some k->q≠d->iq k=true->bF ρ k.dO->dI (hv q)=some g'->q≠r/\S.jd[q]?=some k:=by
  intro q k g' hq rU hlk hp WL;have hqr:q≠r:=by
   rintro rfl;rw[wY]at hq;injection hq with hq;subst hq;cases hlk
  exact⟨hqr,by rw[vT q hqr rU]at hq;exact hq⟩
 have vs:∀q k g',q≠r->S.jd[q]?=some k->iq k=true->bF ρ k.dO->dI (hv q)=some g'->dI v'≠some g':=by
  intro q k g' hqr hq hlk hp WL hc;rcases hvg g' hc with h1|h1
  .exact h.dist r q _ k g' hr hq (fun e=>hqr e.symm) rfl hlk (bE ρ) hp h1 WL
  .have:=(h.lt hq hlk hp WL).1;omega
 intro q1 q2 k1 k2 g' hq1 hq2 VN hl1 hl2 hp1 hp2 hg1 hg2;by_cases h1:q1=d
 .subst h1;simp only[upd,eO,zq VN.symm]at hg1 hg2;obtain⟨b1,b2⟩:=one q2 k2 g' hq2 VN.symm hl2 hp2 hg2;exact vs q2 k2 g' b1 b2 hl2 hp2 hg2 hg1
 simp only[upd,zq h1]at hg1;obtain⟨a1,a2⟩:=one q1 k1 g' hq1 h1 hl1 hp1 hg1;by_cases h2:q2=d
 .subst h2;simp only[upd,eO]at hg2;exact vs q1 k1 g' a1 a2 hl1 hp1 hg1 hg2
 simp only[upd,zq h2]at hg2;obtain⟨b1,b2⟩:=one q2 k2 g' hq2 h2 hl2 hp2 hg2;exact h.dist q1 q2 k1 k2 g' a2 b2 VN hl1 hl2 hp1 hp2 hg1 hg2
theorem Ey{bs:List aL}{r:Nat}{s:Sh}{e:E}(h:ownRow bs r=some (s,e)):bs[r]?=some ⟨.row s e,false,[]⟩:=by
 unfold ownRow at h;split at h
 next hb=>simp at h;obtain⟨rfl,rfl⟩:=h;exact hb
 simp at h
theorem Li{x:SX}{v:Value}{w':World}{hv':Nat->Value}{bs':List aL}(hr:(execOp a.eval o).run P w=.ok (.value v) w')(hrel:aZ P N0 w0 ρ {S with jd:=bs'} hv' a w')
  (hx:dA w' (NN N0 w0.own ρ bs' hv') ρ bs' hv' x v):
  o.wp P a w (fun a' w'=>∃hv',aZ P N0 w0 ρ {S with tmps:=eT S.tmps o.dst ⟨[],x⟩,jd:=bs'} hv' a' w') Q:=by
 unfold Oper.wp;rw[hr];exact⟨hv',hrel.put o.dst [] x v (fun _=>hx) (fun h=>absurd (bE ρ) h)⟩
theorem Ry{b:Builtin}{args:Array Operand}{ts:Array TypeId}(hop:o.op=.call {callee:=.builtin b,args:=args,argTypes:=ts}){m:Sem Value}
  (hm:∀consts,builtin b ts o.type consts (args.map a.eval)=(do pure (.value (<-m)))) {v:Value}{w':World}(hv:m.run P w=.ok v w'):(execOp a.eval o).run P w=.ok (.value v) w':=by
 simp only[execOp,hop,resolve,invoke];simp only[iB,Sem.run_pure,sG,hm,hv]
theorem zK{N B:Nat->Prop}{et:TypeId}{s:Sh}{v:Value}{c:C}{xs:List Value}(hown:w.jL B et s.size v c.toList.length xs)(hr:cZ w N s xs c.toList)(hN:∀g,dI v=some g->N g):Rd w N (.sl s) [v] c:=by
 rcases vF hown with⟨h0,h1,h2⟩|⟨g,cap,h0,h1,h2,h3,h4,hc⟩
 .subst h0;refine⟨none,0,?_,by omega,cu _,fun hne=>absurd (oC (by omega)) hne⟩;have:c.toList.length=0:=by omega
  rw[this]
 subst h0;refine⟨some ⟨g,0,none⟩,cap,rfl,by omega,by omega,fun _=>⟨g,0,rfl,hN g rfl,by assumption,wT.of_row hr hc⟩⟩
theorem aZ.keeps(h:aZ P N0 w0 ρ S hv a w){r:Nat}{s:Sh}{e:E}(hr:S.jd[r]?=some ⟨.row s e,false,[]⟩){w':World}(hg:w.grownBy w' (dI (hv r)))
  (hok:(∀b,NN N0 w0.own ρ S.jd hv b->b<w.heap.size->w'.heap[b]?=w.heap[b]?/\NN N0 w0.own ρ (S.jd.set r ⟨.row s e,true,[]⟩) hv b)->
   tT w' w0.own (NN N0 w0.own ρ (S.jd.set r ⟨.row s e,true,[]⟩) hv) ρ (S.jd.set r ⟨.row s e,true,[]⟩) hv r (.row s e)):
  aZ P N0 w0 ρ {S with jd:=S.jd.set r ⟨.row s e,true,[]⟩} hv a w'/\∀b,NN N0 w0.own ρ S.jd hv b->b<w.heap.size->w'.heap[b]?=w.heap[b]?/\NN N0 w0.own ρ (S.jd.set r ⟨.row s e,true,[]⟩) hv b:=by
 have hrl:r<S.jd.length:=(zy.1 hr).1;have wY:(S.jd.set r ⟨.row s e,true,[]⟩)[r]?=some ⟨.row s e,true,[]⟩:=nV hrl;have vT:∀q,q≠r->(S.jd.set r ⟨.row s e,true,[]⟩)[q]?=S.jd[q]?:=fun q h1=>fZ h1.symm;have hkk:∀b,NN N0 w0.own ρ S.jd hv b->b<w.heap.size->w'.heap[b]?=w.heap[b]?/\NN N0 w0.own ρ (S.jd.set r ⟨.row s e,true,[]⟩) hv b:=by
  intro b hb' hlt;have hbr:=hb'.2 r _ hr rfl rfl (bE ρ);refine⟨hg.block b hlt (fun e=>hbr e.symm),hb'.1,fun q k hq hlk hf hp=>?_⟩;by_cases hqr:q=r
  .subst hqr;exact hbr
  .rw[vT q hqr]at hq;exact hb'.2 q k hq hlk hf hp
 have hle:lU ρ S.jd (S.jd.set r ⟨.row s e,true,[]⟩) hv hv:=by
  refine⟨fun q hq=>⟨?_,rfl⟩,fun q s' e' p hq h'=>⟨e',?_,rfl⟩,fun q cs p hq h'=>⟨cs,?_⟩⟩
  .by_cases hqr:q=r
   .subst hqr;exact⟨_,wY,by simp⟩
   obtain ⟨k,h1,h2⟩:=hq;exact⟨k,by rw[vT q hqr];exact h1,h2⟩
  .by_cases hqr:q=r
   .subst hqr;simp only[eu,wY,hr]at h' |-;exact h'
   unfold eu at h' |-;rwa[vT q hqr]at h'
  .by_cases hqr:q=r
   .subst hqr;simp[gZ,wY]at h'
   .unfold gZ at h' |-;rwa[vT q hqr]at h'
 have hbel:tJ P w0 w':=h.below.after hg.os hg.tape hg.output hg.size fun k hk hn=>hg.block k hk fun e=>hn (h.lt hr rfl (bE ρ) e.symm).2;refine⟨h.step hle hbel hg.size hkk ?_ ?_,hkk⟩
 .intro q k hq hp;by_cases hqr:q=r
  .subst hqr;rw[wY]at hq;injection hq with hq;subst hq;exact hok hkk
  .rw[vT q hqr]at hq;by_cases hlk:iq k=true
   .refine (h.jd q k hq hp).le hg.size hkk hle rfl fun g' hg'=>hg.block g' (h.lt hq hlk hp hg').1 fun e=>?_;exact h.dist r q _ k g' hr hq (fun e=>hqr e.symm) rfl hlk (bE ρ) hp e.symm hg'
   .obtain ⟨Ml,f2,p2⟩:=k;cases Ml with
    |none=>trivial
    |dead=>trivial
    |row s e=>exact absurd rfl hlk
    |box cs=>exact absurd rfl hlk
    |mp _ _ _=>exact absurd rfl hlk
    |sit _ _=>exact absurd rfl hlk
 have jm:∀(q:Nat) (k:aL),(S.jd.set r ⟨.row s e,true,[]⟩)[q]?=some k->∃k0,S.jd[q]?=some k0/\iq k=iq k0/\k.dO=k0.dO:=by
  intro q k hq;by_cases hqr:q=r
  .subst hqr;rw[wY]at hq;injection hq with hq;subst hq;exact⟨_,hr,rfl,rfl⟩
  .rw[vT q hqr]at hq;exact⟨k,hq,rfl,rfl⟩
 intro q1 q2 k1 k2 g' hq1 hq2 hne hl1 hl2 hp1 hp2;obtain⟨k1',a1,a2,a3⟩:=jm q1 k1 hq1;obtain⟨k2',b1,b2,b3⟩:=jm q2 k2 hq2;rw[a2]at hl1;rw[b2]at hl2;rw[a3]at hp1;rw[b3]at hp2;exact h.dist q1 q2 k1' k2' g' a1 b1 hne hl1 hl2 hp1 hp2
theorem arX(hrel:aZ P N0 w0 ρ S hv a w){keep:Bool}{ts:Array TypeId}{x y:Operand}{d:Nat}(hop:o.op=.call {callee:=.builtin .append,args:= #[x,y],argTypes:=ts}){sx:SX}{bs':List aL}{ji:List Ob}
  (h:KC P keep S.jd ts d (S.ev P [] x (ts.getD 0 0)) (S.ev P [] y (ts.getD 1 0))=some (sx,bs',ji)) (ho:fG P ρ S.nv ji):
  o.wp P a w (fun a' w'=>∃hv',aZ P N0 w0 ρ {S with tmps:=eT S.tmps o.dst ⟨[],sx⟩,jd:=bs'} hv' a' w') Q:=by
 unfold KC at h;split at h
 .rename_i et sa sb ht hsa hsb;split at h
  .simp at h
  .rename_i s m f hsrc;split at h
   .rename_i hok;simp only[bB,dQ]at hok;obtain⟨⟨⟨⟨hts,hz⟩,hfit⟩,hs0⟩,hb0⟩:=hok;have hs0:0<s.size:=by simp at hs0;omega
    have hb0:0<P.bytesOf et:=by simp at hb0;omega
    obtain⟨t0,t1,rfl⟩:∃t0 t1,ts= #[t0,t1]:=by
     obtain⟨tl⟩:=ts;match tl,hts with
     | [t0,t1],_=>exact⟨t0,t1,rfl⟩
    obtain⟨ze,hz⟩:=o9.1 hz;obtain⟨i,z,hi,hz1,hz2,_⟩:=JL (w:=w) (N:=NN N0 w0.own ρ S.jd hv) (ρ:=ρ) hz;have hzs:z.cells.size=s.size:=by have:=hz2.length;simpa using this
    obtain⟨i',d',hi',hsz,_,_⟩:=GK hfit;rw[hi]at hi';injection hi' with hi';subst hi';obtain⟨d2,news,q1,q3,q4⟩:=auV hrel hsrc (dD hrel (bE ρ) hsb) hi hz1 hs0;have hby:P.bytesOf et=i.bytes:=by simp[Program.bytesOf,hi]
    have hB:w0.own w.heap.size:=.inl hrel.below.size;have law:∀{n:Nat}{gM:TypeId}{v:Value}{xs:List Value},w.jL w0.own gM s.size v n xs->(n+(m.eval ρ).toList.length)*i.bytes<=140737488355328->
      ∃v' w' Cw,(Builtin.append_ #[t0,t1] o.type #[v,a.eval y]).run P w=.ok v' w'/\w'.jL w0.own Cw s.size v' (n+(m.eval ρ).toList.length) (xs++news)/\w.grownBy w' (dI v)/\(dI v'=dI v\/dI v'=some w.heap.size)/\w'.jL w0.own gM s.size v n xs:=by
     intro n gM v xs hown hbytes;rw[hby]at hb0;have hle:n+(m.eval ρ).toList.length<=140737488355328:=zw (Nat.le_mul_of_pos_right _ hb0) hbytes;exact run_append_row (AY ht) q1 hi hz1 hsz hzs hs0 hown (q4 (by omega)) q3.length (Tp q3) (by simp only[maxLen];omega) hbytes hB
    have exec:∀{v':Value}{w':World},(Builtin.append_ #[t0,t1] o.type #[a.eval x,a.eval y]).run P w=.ok v' w'->(execOp a.eval o).run P w=.ok (.value v') w':=
     fun hr=>Ry hop (fun _=>by simp[builtin]) hr
    split at h
    .rename_i s';split at h
     .rename_i hok2;simp only[bB,dQ]at hok2;obtain⟨rfl,hfree⟩:=hok2;simp only[dP,iG]at h;obtain⟨rfl,rfl,rfl⟩:=h;obtain⟨vs,e1,e2,e3⟩:=dD hrel (bE ρ) hsa;simp only[Exact]at e3;subst e3;have hv0:a.eval x=.slice none 0 0:=by rw[e2];simp[Sh.mk,Sh.isAgg]
      have h0:=ho.1 (bE ρ);simp only[E.eval,mY,sU,C.MQ,C.toInt_int]at h0;have h0:=ng h0;rw[hby]at h0;have hbytes:(0+(m.eval ρ).toList.length)*i.bytes<=140737488355328:=by
       rw[kD];have:(((m.eval ρ).toList.length*i.bytes:Nat):Int)<=140737488355328:=by rw[Int.natCast_mul];exact h0
       omega
      obtain⟨v',w',Cw,r1,r2,r3,r4,_⟩:=law (v:=.slice none 0 0) (gM:=et) (n:=0) (xs:=[]) ⟨by simp,.inl ⟨rfl,rfl⟩⟩ hbytes;simp only[kD,iw]at r2;have hbel:Below w.heap.size w w':=⟨r3.os,r3.tape,r3.output,r3.size,fun k hk=>r3.block k hk (by simp[dI])⟩;have hnew:=Ng hfree;have hdl:d<S.jd.length:=by obtain⟨k,hk,_⟩:=hnew;exact(zy.1 hk).1
      have hbn:∀g,dI v'=some g->w.heap.size<=g:=by
       intro g hg;rcases r4 with r4|r4
       .rw[r4]at hg;simp[dI]at hg
       .rw[r4]at hg;injection hg with hg;omega
      refine Li (v:=v') (w':=w') (exec (by rw[hv0];exact r1)) (hrel.new hnew (.row s m) [] v' hbel hbn fun _=>?_).1 ⟨⟨⟨.row s m,false,[]⟩,by simp[hdl],by simp⟩,fun s2 e2 p hin _=>?_⟩
      .refine ⟨Cw,news,by simpa[upd]using r2,q3.mono hbel.size ?_,hs0⟩;intro b hb hlt;refine⟨hbel.block b hlt,hb.1,fun r k hr hl hf hp=>?_⟩;by_cases hrd:r=d
       .subst hrd;simp only[upd,eO];intro hc;have:=hbn b hc;omega
       rw[fZ (fun e=>hrd e.symm)]at hr;simp only[upd,zq hrd];exact hb.2 r k hr hl hf hp
      .simp[eu,hdl]at hin;obtain⟨rfl,rfl,rfl⟩:=hin;exact⟨by simp[upd],by rw[GU];rfl⟩
     simp at h
    .rename_i r n;split at h
     .rename_i s' e hor;split at h
      .split at h
       .rename_i hok2;simp only[bB,dQ]at hok2;obtain⟨rfl,_⟩:=hok2;simp only[dP,iG]at h;obtain⟨rfl,rfl,rfl⟩:=h;have hr:=Ey hor;have tY:eu S.jd r=some (s,e,[]):=by simp[eu,hr]
        obtain⟨hv0,hn⟩:=(dD hrel (bE ρ) hsa).2 s e [] tY (bE ρ);obtain⟨gM,xs,hown,hrd,_⟩:=hrel.rows.row r s e [] tY (bE ρ);have h0:=ho.1 (bE ρ);simp only[E.eval,mY,sU,C.MQ,C.toInt_int]at h0;have h0:=ng h0;rw[hby,hn]at h0;have hbytes:((e.eval ρ).toList.length+(m.eval ρ).toList.length)*i.bytes<=140737488355328:=by
         have:((((e.eval ρ).toList.length+(m.eval ρ).toList.length)*i.bytes:Nat):Int)<=140737488355328:=by rw[Int.natCast_mul,Ck];exact h0
         omega
        obtain⟨v',w',Cw,r1,r2,r3,r4,r5⟩:=law hown hbytes;have IV:((E.app e m).eval ρ).toList=(e.eval ρ).toList++(m.eval ρ).toList:=by simp[E.eval]
        obtain⟨k1,k2⟩:=hrel.keeps hr r3 fun hkk=>⟨gM,xs,r5,hrd.mono r3.size hkk,hs0⟩;refine Li (v:=v') (w':=w') (exec (by rw[hv0];exact r1)) k1 (zP ⟨[v'],?_,by simp[Sh.mk,Sh.isAgg]⟩ (sS (by simp) (by simp)));have hrow:cZ w' (NN N0 w0.own ρ (S.jd.set r ⟨.row s e,true,[]⟩) hv) s (xs++news) ((E.app e m).eval ρ).toList:=by
         rw[IV];exact(hrd.append q3).mono r3.size k2
        have r2':w'.jL w0.own Cw s.size v' ((E.app e m).eval ρ).toList.length (xs++news):=by rw[IV,cO];exact r2
        refine zK r2' hrow fun g hg=>⟨.inr ?_,fun q k hq hlk hf hp hc=>?_⟩
        .rcases r2'.2 with⟨hz,_⟩|⟨g2,cap2,aDO,hz,hz2,_⟩
         .rw[hz]at hg;cases hg
         .rw[hz]at hg;injection hg with hg;subst hg;exact hz2
        by_cases hqr:q=r
        .subst hqr;rw[nV (zy.1 hr).1]at hq;injection hq with hq;subst hq;cases hf
        rw[fZ (fun e=>hqr e.symm)]at hq;rcases r4 with r4|r4
        .rw[r4]at hg;exact hrel.dist r q _ k g hr hq (fun e=>hqr e.symm) rfl hlk (bE ρ) hp hg hc
        rw[r4]at hg;injection hg with hg;have:=(hrel.lt hq hlk hp hc).1;omega
       .simp at h
      split at h
      .rename_i hok2;simp only[bB,dQ]at hok2;obtain⟨⟨rfl,_⟩,hfree⟩:=hok2;simp only[dP,iG]at h;obtain⟨rfl,rfl,rfl⟩:=h;have hr:=Ey hor;have tY:eu S.jd r=some (s,e,[]):=by simp[eu,hr]
       obtain⟨hv0,hn⟩:=(dD hrel (bE ρ) hsa).2 s e [] tY (bE ρ);obtain⟨gM,xs,hown,hrd,_⟩:=hrel.rows.row r s e [] tY (bE ρ);have h0:=ho.1 (bE ρ);simp only[E.eval,mY,sU,C.MQ,C.toInt_int]at h0;have h0:=ng h0;rw[hby,hn]at h0;have hbytes:((e.eval ρ).toList.length+(m.eval ρ).toList.length)*i.bytes<=140737488355328:=by
        have:((((e.eval ρ).toList.length+(m.eval ρ).toList.length)*i.bytes:Nat):Int)<=140737488355328:=by rw[Int.natCast_mul,Ck];exact h0
        omega
       obtain⟨v',w',Cw,r1,r2,r3,r4,_⟩:=law hown hbytes;have hnew:=Ng hfree;have hdl:d<S.jd.length:=by obtain⟨k,hk,_⟩:=hnew;exact(zy.1 hk).1
       have IV:((E.app e m).eval ρ).toList=(e.eval ρ).toList++(m.eval ρ).toList:=by simp[E.eval]
       refine Li (v:=v') (w':=w') (exec (by rw[hv0];exact r1)) (hrel.grows hr hnew (lb:=.row s (.app e m)) rfl r3 (fun g hg=>r4.elim (fun r4=> .inl (r4▸hg)) fun r4=> .inr (by rw[r4]at hg;injection hg with hg;omega)) fun hkk=>?_) ⟨⟨⟨.row s (.app e m),false,[]⟩,by simp[hdl],by simp⟩,fun s2 e2 p hin _=>?_⟩
       .refine ⟨Cw,xs++news,?_,?_,hs0⟩
        .rw[IV,cO];simpa[upd]using r2
        rw[IV];exact(hrd.append q3).mono r3.size hkk
       .simp[eu,hdl]at hin;obtain⟨rfl,rfl,rfl⟩:=hin;refine⟨by simp[upd],?_⟩;rw[IV,cO];simp[E.eval,sU,hn,GU]
      simp at h
     .simp at h
    simp at h
   .simp at h
 simp at h
theorem aZ.ayO(h:aZ P N0 w0 ρ S hv a w){r:Nat}{s:Sh}{e e':E}(hr:S.jd[r]?=some ⟨.row s e,false,[]⟩)(he:(e'.eval ρ).toList=(e.eval ρ).toList):
  aZ P N0 w0 ρ {S with jd:=S.jd.set r ⟨.row s e',false,[]⟩} hv a w:=by
 have hrl:r<S.jd.length:=(zy.1 hr).1;have hle:lU ρ S.jd (S.jd.set r ⟨.row s e',false,[]⟩) hv hv:=aiO hr (by rw[he]);have jm:∀(q:Nat) (k:aL),(S.jd.set r ⟨.row s e',false,[]⟩)[q]?=some k->∃k0,S.jd[q]?=some k0/\iq k0=iq k/\k0.iK=k.iK/\k0.dO=k.dO:=by
  intro q k hq;by_cases hqr:q=r
  .subst hqr;rw[nV hrl]at hq;injection hq with hq;subst hq;exact⟨_,hr,rfl,rfl,rfl⟩
  .rw[fZ (fun e=>hqr e.symm)]at hq;exact⟨k,hq,rfl,rfl,rfl⟩
 have hkk:∀b,NN N0 w0.own ρ S.jd hv b->b<w.heap.size->w.heap[b]?=w.heap[b]?/\NN N0 w0.own ρ (S.jd.set r ⟨.row s e',false,[]⟩) hv b:=by
  intro b hb _;refine⟨rfl,hb.1,fun q k hq hl hf hp=>?_⟩;obtain⟨k0,h1,h2,h3,h4⟩:=jm q k hq;exact hb.2 q k0 h1 (by rw[h2];exact hl) (by rw[h3];exact hf) (by rw[h4];exact hp)
 refine h.step hle h.below (aS _) hkk ?_ ?_
 .intro q k hq hp;by_cases hqr:q=r
  .subst hqr;rw[nV hrl]at hq;injection hq with hq;subst hq;have:=(h.jd q _ hr (bE ρ)).le (aS _) hkk hle rfl fun _ _=>rfl;obtain⟨et,xs,g1,g2,g3⟩:=this;exact⟨et,xs,by rw[he];exact g1,by rw[he];exact g2,g3⟩
  .rw[fZ (fun e=>hqr e.symm)]at hq;exact(h.jd q k hq hp).le (aS _) hkk hle rfl fun _ _=>rfl
 intro q1 q2 k1 k2 g h1 h2 hne l1 l2 p1 p2;obtain⟨k3,a1,a2,_,a4⟩:=jm q1 k1 h1;obtain⟨k4,b1,b2,_,b4⟩:=jm q2 k2 h2;exact h.dist q1 q2 k3 k4 g a1 b1 hne (by rw[a2];exact l1) (by rw[b2];exact l2) (by rw[a4];exact p1) (by rw[b4];exact p2)
theorem auc{e off m n:E}{o1 m1:Nat}(ho:(off.eval ρ).toInt=(o1:Int))(hn:(n.eval ρ).toInt=(m1:Int))(hle:o1+m1<=(e.eval ρ).toList.length):
  ((E.jr e off (.sub m (.int 0) n)).eval ρ).toList=(e.eval ρ).toList.take o1++((m.eval ρ).toList.take (min (m.eval ρ).toList.length m1)++(e.eval ρ).toList.drop (o1+min (m.eval ρ).toList.length m1)):=by
 simp only[E.eval,C.lF,C.toInt_int,ho,hn,dF,jr,Aw,xu];have h1:((m.eval ρ).toList.take m1).length=min (m.eval ρ).toList.length m1:=by simp[Nat.min_comm]
 rw[mO (l:=(m.eval ρ).toList.take m1) (by rw[h1];omega),h1];congr 2
 by_cases h:m1<=(m.eval ρ).toList.length
 .rw[Nat.min_eq_right h]
 rw[u6 (by omega),mO (by omega),mO (by omega)]
theorem aul(hrel:aZ P N0 w0 ρ S hv a w){ts:Array TypeId}{x y:Operand}(hop:o.op=.call {callee:=.builtin .copy,args:= #[x,y],argTypes:=ts}){sx:SX}{bs':List aL}
  (h:Ll P S.jd ts (S.ev P [] x (ts.getD 0 0)) (S.ev P [] y (ts.getD 1 0))=some (sx,bs')):
  o.wp P a w (fun a' w'=>∃hv',aZ P N0 w0 ρ {S with tmps:=eT S.tmps o.dst ⟨[],sx⟩,jd:=bs'} hv' a' w') Q:=by
 unfold Ll at h;split at h
 .rename_i et sa sb ht hsa hsb;split at h
  .rename_i s m f r off n hsrc hdst;split at h
   .rename_i s' e hor;split at h
    .rename_i hok;simp only[bB,dQ]at hok;obtain⟨⟨rfl,hfit⟩,hts⟩:=hok;simp only[dP,iG]at h;obtain⟨rfl,rfl⟩:=h;obtain⟨t0,t1,rfl⟩:∃t0 t1,ts= #[t0,t1]:=by
      obtain⟨tl⟩:=ts;match tl,hts with
      | [t0,t1],_=>exact⟨t0,t1,rfl⟩
     obtain⟨d2,news,q1,q2,q3,q4,q5⟩:=aej hrel hsrc (dD hrel (bE ρ) hsb);have hu:P.underlying t0=some (.slice et):=AY ht;have hr:=Ey hor;have tY:eu S.jd r=some (s,e,[]):=by simp[eu,hr]
     obtain⟨gM,xs,hown,hrd,hs0⟩:=hrel.rows.row r s e [] tY (bE ρ);obtain⟨o1,m1,ad,cap,ho,hn,hle,hvx,ha⟩:∃o1 m1 ad cap,(off.eval ρ).toInt=((o1:Nat):Int)/\(n.eval ρ).toInt=((m1:Nat):Int)/\o1+m1<=(e.eval ρ).toList.length/\a.eval x=.slice ad m1 cap/\(0<m1->∃g,dI (hv r)=some g/\ad=some ⟨g,o1*s.size,none⟩):=by
      have gq:=dD hrel (bE ρ) hsa;unfold Qi at hdst;split at hdst
      .simp at hdst;obtain⟨rfl,rfl,rfl⟩:=hdst;obtain⟨hv0,hn⟩:=gq.2 s e [] tY (bE ρ);rcases vF hown with⟨h5,h6,_⟩|⟨g,cap,h5,_⟩
       .exact ⟨0,(e.eval ρ).toList.length,none,0,by simp[E.eval],hn,by omega,by rw[hv0,h5,h6],fun h=>by omega⟩
       exact ⟨0,(e.eval ρ).toList.length,_,cap,by simp[E.eval],hn,by omega,by rw[hv0,h5],fun _=>⟨g,by rw[h5];rfl,by simp⟩⟩
      .simp at hdst;obtain⟨rfl,rfl,rfl⟩:=hdst;obtain⟨o1,m1,ho,hm,hle,ad,cap,hv1,_,_,ha⟩:=gq.2 s e [] tY (bE ρ);exact⟨o1,m1,ad,cap,ho,hm,hle,hv1,ha⟩
      .simp at hdst
     have hev:=auc (e:=e) (off:=off) (m:=m) (n:=n) ho hn hle;have hk:Nat.min (m.eval ρ).toList.length m1=min (m.eval ρ).toList.length m1:=rfl;have hres:∀{bs':List aL}{w':World},dA w' (NN N0 w0.own ρ bs' hv) ρ bs' hv (.jo (.int .i64) (.qR (r9 m) n)) (.int .i64 ((min (m.eval ρ).toList.length m1:Nat):Int)):=by
      intro bs' w';rw[jB];simp[E.eval,GU,hn];omega
     have hfc:=q5 w (min (m.eval ρ).toList.length m1) (fun _ _=>rfl) (Nat.min_le_left _ _);by_cases hk0:min (m.eval ρ).toList.length m1=0
     .have heq:((E.jr e off (.sub m (.int 0) n)).eval ρ).toList=(e.eval ρ).toList:=by rw[hev,hk0];simp
      refine Li (v:=.int .i64 ((min (m.eval ρ).toList.length m1:Nat):Int)) (w':=w) (Ry hop (fun _=>by simp[builtin]) (m:=Builtin.copy_ #[t0,t1] o.type #[a.eval x,a.eval y]) ?_) (hrel.ayO hr heq) hres;rw[hk0]at hfc;simp only[Nat.zero_mul,vY]at hfc;rw[hvx];cases ad with
      |none=>simp[Builtin.copy_,dR hu,q4,run_sizeOf hfit,hk,hk0,hfc,goInt]
      |some ad=>simp[Builtin.copy_,dR hu,q4,run_sizeOf hfit,hk,hk0,hfc,goInt,storeCells]
     obtain ⟨g,hg,rfl⟩:=ha (by omega);have hml:(news.take (min (m.eval ρ).toList.length m1*s.size)).length=min (m.eval ρ).toList.length m1*s.size:=by
      have:min (m.eval ρ).toList.length m1*s.size<=news.length:=by rw[q3.length];exact Cc _ (Nat.min_le_left _ _)
      simp;omega
     obtain⟨cur,ty,c1,c2,c3⟩:=afj (e':=.jr e off (.sub m (.int 0) n)) hrel hr hg (off:=o1*s.size) (us:=news.take (min (m.eval ρ).toList.length m1*s.size)) (by rw[hev];simp;omega) (fun xs hxs hxl=>by
      rw[hml,hev];have hb:(o1+min (m.eval ρ).toList.length m1)*s.size<=(e.eval ρ).toList.length*s.size:=Cc _ (by omega);rw[pq]at hb;refine⟨by omega,?_⟩;have h3:=hxs.drop (o1+min (m.eval ρ).toList.length m1);rw[pq]at h3;exact(hxs.take o1).append ((q3.take _).append h3))
     refine Li (v:=.int .i64 ((min (m.eval ρ).toList.length m1:Nat):Int)) (Ry hop (fun _=>by simp[builtin]) (m:=Builtin.copy_ #[t0,t1] o.type #[a.eval x,a.eval y]) ?_) c3 hres;have hst:=run_storeCells_at P g (o1*s.size) ty (news.take (min (m.eval ρ).toList.length m1*s.size)) 0 cur w c1 (by simpa using c2) (fun u hu=>Tp q3 u (Jb hu));simp only[qE]at hst;rw[hvx];simp[Builtin.copy_,dR hu,q4,run_sizeOf hfit,hk,hfc,goInt,hst]
    .simp at h
   simp at h
  .simp at h
 simp at h
end
section
variable{P:Program}{cfg:fF}{N0:Nat->Prop}{w0:Wb}{ρ:List C}{S:SS}{hv:Nat->Value}{a:Act}{w:World}{o:Oper}{Q:Exit->Act->World->Prop}
theorem Sq{w w':World}{N N':Nat->Prop}{s:Sh}(hs:s.iQ=true):∀{l:List C}{xs:List Value},cZ w N s xs l->cZ w' N' s xs l
 | [],_,h=>h
 |_::_,_,⟨u,r,h1,h2,h3⟩=>⟨u,r,h1,OL hs h2,Sq hs h3⟩
theorem avn{fz:List Nat}{bs:List aL}{r:Nat}(hr:r∉fz):(og fz bs)[r]?=bs[r]?:=by
 rw[xP];exact Nh fz bs hr
theorem M5{fz:List Nat}{bs:List aL}{d:Nat}(h:∃k,bs[d]?=some k/\k.lb=.none):∃k,(og fz bs)[d]?=some k/\k.lb=.none:=by
 induction fz generalizing bs with
 |nil=>exact h
 |cons r l ih=>
  apply ih;obtain⟨k,h1,h2⟩:=h;by_cases e:r=d
  .subst e;exact⟨{k with iK:=true},by simp[h1],h2⟩
  exact ⟨k,by simp[e,h1],h2⟩
theorem Ew{B B':Nat->Prop}{et:TypeId}{size:Nat}{v:Value}{n:Nat}{xs:List Value}(h:w.jL B et size v n xs)(hB:∀g,dI v=some g->B g->B' g):w.jL B' et size v n xs:=by
 obtain⟨h1,h2⟩:=h;refine⟨h1,?_⟩;rcases h2 with h2|⟨g,cap,cur,h3,h4,h5⟩
 .exact .inl h2
 exact .inr ⟨g,cap,cur,h3,hB g (by rw[h3];rfl) h4,h5⟩
theorem SL{f:Nat}{args:Array Operand}{ts:Array TypeId}(hop:o.op=.call {callee:=.value (.func f),args:=args,argTypes:=ts})(hc:zC P f):
  (execOp a.eval o).run P w=.ok (.enter f (args.toList.map a.eval).toArray) w:=by
 obtain⟨fn,hfn,hbody,hname⟩:=hc;have hn:¬fn.name= "runtime.NumGoroutine" :=by simpa using hname
 have hb:¬fn.body=none:=by intro h;simp[h]at hbody
 have harr:(args.toList.map a.eval).toArray=args.map a.eval:=by apply xC;simp
 rw[harr];simp[execOp,hop,resolve,Deferred.ofValue,Act.eval,invoke,callFunc,hfn,hn,hb]
theorem afD{fz:List Nat}{bs:List aL}{q:Nat}{k:aL}(h:(bP (fz.map .bM) bs)[q]?=some k)(hf:k.iK=false):q∉fz/\bs[q]?=some k:=by
 by_cases hq:q∈fz
 .rw[agN fz hq h]at hf;cases hf
 exact ⟨hq,by rw[Nh fz bs hq]at h;exact h⟩
theorem afX(hrel:aZ P N0 w0 ρ S hv a w){fz:List Nat}(hf:∀q∈fz,nH S.jd ρ q){v0 v1:Value}{d:Nat}{bs':List aL}
  (hv0:∀g,dI v0=some g->w0.own g) (hq:∀q k,q≠d->bs'[q]?=some k->iq k=true->k.iK=false->q∉fz/\S.jd[q]?=some k/\∀b,bF ρ k.dO->dI v0=some b->dI (hv q)≠some b)
  {b:Nat}(h:Behind (NF (NN N0 w0.own ρ S.jd hv) hv fz) w v0 v1 b):NN N0 w0.own ρ bs' (upd hv d v1) b:=by
 obtain⟨h1,h2⟩:=h;have hrow:∀r∈fz,∀g,dI (hv r)=some g->w0.own g/\∃k,S.jd[r]?=some k/\iq k=true/\bF ρ k.dO:=by
  intro r hr g hg;obtain⟨k,e3,el,e2⟩:=hf r hr;exact⟨(hrel.lt e3 el e2 hg).2,k,e3,el,e2⟩
 refine⟨?_,fun q k hqk hl hfz hp=>?_⟩
 .rcases h1 with(h1|⟨r,hr,hg⟩)|h1|h1
  .exact h1.1
  .exact .inr (hrow r hr b hg).1
  .exact .inr (.inl (zw hrel.below.size h1))
  .exact .inr (hv0 b h1)
 by_cases rU:q=d
 .subst rU;simpa[upd]using h2
 simp only[upd,zq rU];obtain⟨g1,g2,g3⟩:=hq q k rU hqk hl hfz;rcases h1 with(h1|⟨r,hr,hg⟩)|h1|h1
 .exact h1.2 q k g2 hl hfz hp
 .obtain ⟨_,k',e1,e2,e3⟩:=hrow r hr b hg;exact hrel.dist r q k' k b e1 g2 (fun e=>g1 (e▸hr)) e2 hl e3 hp hg
 .intro hc;have:=(hrel.lt g2 hl hp hc).1;omega
 exact g3 b hp h1
theorem axt(v:Value):pack [v]=v:=by simp[pack]
theorem awc{v:Value}{vr:List Value}(h:vr≠[]):pack (v::vr)=.tuple (v::vr).toArray:=by
 unfold pack;rw[dif_neg];cases vr with
 |nil=>exact absurd rfl h
 |cons _ _=>simp
theorem acs{bs:List aL}{N:Nat->Prop}{d nv:Nat}{s:Sh}{aK:List Sh}{v1:Value}{vr:List Value}(hd:bs[d]?=some ⟨.row s (.vq nv),false,[]⟩)(hv1:hv d=v1)
  (hr:fI w N (gB ρ (jZ (nv+1) aK)) vr):dA w N ρ bs hv (Bu d nv aK) (pack (v1::vr)):=by
 have hk:known bs d:=⟨_,hd,by simp⟩;have hrow:∀s' e p,eu bs d=some (s',e,p)->bF ρ p->v1=hv d/\(((E.vq nv).len).eval ρ).toInt=((e.eval ρ).toList.length:Int):=by
  intro s' e p h _;simp[eu,hd]at h;obtain⟨rfl,rfl,rfl⟩:=h;exact⟨hv1.symm,rfl⟩
 unfold Bu;split
 next h0=>subst h0;simp only[jZ,gB,pU,fI]at hr;subst hr;rw[axt];exact⟨hk,hrow⟩
 .rename_i h0;have hne:vr≠[]:=by
   intro e;subst e;cases aK with
   |nil=>exact h0 rfl
   |cons r l=>obtain⟨_,_,h,_⟩:=hr;cases h
  rw[awc hne];exact⟨hk,v1,vr,rfl,hrow,hr,Q5 aK (nv+1)⟩
theorem afo{aK:List Sh}{nv:Nat}(h:aK.all Sh.iQ=true)(hl:nv+aK.length<=ρ.length):∀x∈gB ρ (jZ nv aK),x.1.iQ=true:=by
 intro x hx;rw[Gt aK nv hl]at hx;simp only[pR]at h;exact h _ (List.of_mem_zip hx).1
theorem afE(hrel:aZ P N0 w0 ρ S hv a w){fz:List Nat}(hfz:∀q∈fz,nH S.jd ρ q){d:Nat}(hnew:∃k,S.jd[d]?=some k/\k.lb=.none){s:Sh}{aK:List Sh}(hs0:0<s.size)
  {w':World}{v1:Value}{vr:List Value}{gM:TypeId}{cs':List Value}(hbel:Below w.heap.size w w')
  (g2:w'.jL (fun g=>w.heap.size<=g) gM s.size v1 ((E.vq S.nv).eval ρ).toList.length cs')
  (g3:cZ w' (Behind (NF (NN N0 w0.own ρ S.jd hv) hv fz) w (.slice none 0 0) v1) s cs' ((E.vq S.nv).eval ρ).toList)
  (g4:fI w' (Behind (NF (NN N0 w0.own ρ S.jd hv) hv fz) w (.slice none 0 0) v1) (gB ρ (jZ (S.nv+1) aK)) vr) (hlen:S.nv+1+aK.length<=ρ.length):
  ∃hv',aZ P N0 w0 ρ {tmps:=eT S.tmps o.dst ⟨[],Bu d S.nv aK⟩,jd:=(og (oQ s aK fz) S.jd).set d ⟨.row s (.vq S.nv),false,[]⟩,nv:=S.nv+(1+aK.length)} hv' (a.put o.dst (pack (v1::vr))) w':=by
 refine⟨upd hv d v1,?_⟩;have H1:=hrel.FV (oQ s aK fz);rw[<-xP]at H1;have hdb:((og (oQ s aK fz) S.jd).set d ⟨.row s (.vq S.nv),false,[]⟩)[d]?=some ⟨.row s (.vq S.nv),false,[]⟩:=by
  obtain⟨k,hk,_⟩:=M5 (fz:=oQ s aK fz) hnew;have:=(zy.1 hk).1;rw[nV (by simpa using this)]
 have LZ:(s.iQ&&aK.all Sh.iQ)=false->∀b,Behind (NF (NN N0 w0.own ρ S.jd hv) hv fz) w (.slice none 0 0) v1 b->
   NN N0 w0.own ρ ((og (oQ s aK fz) S.jd).set d ⟨.row s (.vq S.nv),false,[]⟩) (upd hv d v1) b:=by
  intro hpr b hb;refine afX hrel hfz (fun g hg=>by cases hg) (fun q k rU hq hl hfr=>?_) hb;rw[fZ (fun e=>rU e.symm),xP]at hq;obtain⟨q1,q2⟩:=afD hq hfr;refine⟨?_,q2,fun b' hp hb'=>by cases hb'⟩;unfold oQ at q1;rwa[hpr]at q1
 have H2:=(H1.new (M5 hnew) (.row s (.vq S.nv)) [] v1 hbel
  (fun g hg=>by
   rcases g2.2 with⟨g5,_⟩|⟨g',cap,cur,g5,g6,_⟩
   .rw[g5]at hg;cases hg
   .rw[g5]at hg;injection hg with hg;subst hg;exact g6)
  (fun _=>by
   refine⟨gM,cs',?_,?_,hs0⟩
   .simp only[upd,eO];exact Ew g2 fun g _ hg=> .inl (zw hrel.below.size hg)
   .by_cases hpr:(s.iQ&&aK.all Sh.iQ)=true
    .simp only[bB]at hpr;exact Sq hpr.1 g3
    .exact g3.mono (aS _) fun b hb _=>⟨rfl,LZ (by simpa using hpr) b hb⟩)).1
 refine(H2.put o.dst [] _ _ (fun _=>?_) (fun h=>absurd (bE ρ) h)).nv _;refine acs hdb (by simp[upd]) ?_;by_cases hpr:(s.iQ&&aK.all Sh.iQ)=true
 .simp only[bB]at hpr;exact NG (afo hpr.2 hlen) g4
 exact g4.mono (aS _) fun b hb _=>⟨rfl,LZ (by simpa using hpr) b hb⟩
theorem atX(hrel : aZ P N0 w0 ρ S hv a w){f d : Nat}{args : Array Operand}{ts : Array TypeId}(hop : o.op =.call { callee :=.value (.func f), args := args, argTypes := ts })
    {x : SX} {bs' : List aL} {ji : List Ob} {n : Nat} (h : Im P (S.ev P) S.jd S.nv o.type d f args.toList ts.toList = some (x, bs', ji, n)) (ho : fG P ρ S.nv ji) :
    o.wp P a w (fun a' w' => ∃ hv', aZ P N0 w0 ρ { tmps := eT S.tmps o.dst ⟨[], x⟩, jd := bs', nv := S.nv + n } hv' a' w') Q := by
  unfold Im at h;split at h
  . rename_i s aK x0 xs hrt hargs
    split at h
    . rename_i l fz ha
      split at h
      . rename_i hok
        simp only [bB, dQ]at hok;obtain⟨hs0, hfree, hf⟩ := hok;have hs0 : 0 < s.size := by simp at hs0; omega
        have hnew := Ng hfree;have hdl : d < S.jd.length := by obtain⟨k, hk, _⟩ := hnew; exact(zy.1 hk).1
        obtain⟨hfz, V9⟩ := GA hrel.rows (bE ρ) (fun o t x => dD hrel (bE ρ)) ha;have hlist : args.toList.map a.eval = a.eval x0 :: xs.map a.eval := by rw [hargs]; rfl
        have contract : ∀ e, fG P ρ S.nv [.call [] (1000000 + f) ((.sl s, e) :: l) (.sl s :: aK)] -> ∀(et : TypeId) (cs : List Value), w.jL (fun _ => True) et s.size (a.eval x0) (e.eval ρ).toList.length cs ->
            cZ w (NF (NN N0 w0.own ρ S.jd hv) hv fz) s cs (e.eval ρ).toList -> (∀ g, dI (a.eval x0) = some g -> ¬ NF (NN N0 w0.own ρ S.jd hv) hv fz g) -> (∀ g, dI (a.eval x0) = some g -> ¬ wC P g) ->
            ∀{R : Ending -> World -> Prop}, (∀(w' : World) (v1 : Value) (vr : List Value) (gM : TypeId) (cs' : List Value), w.grownBy w' (dI (a.eval x0)) ->
              w'.jL (fun g => w.heap.size <= g \/ dI (a.eval x0) = some g) gM s.size v1 ((E.vq S.nv).eval ρ).toList.length cs' ->
              cZ w' (Behind (NF (NN N0 w0.own ρ S.jd hv) hv fz) w (a.eval x0) v1) s cs' ((E.vq S.nv).eval ρ).toList ->
              fI w' (Behind (NF (NN N0 w0.own ρ S.jd hv) hv fz) w (a.eval x0) v1) (gB ρ (jZ (S.nv + 1) aK)) vr -> S.nv + 1 + aK.length <= ρ.length -> R (.returned (pack (v1 :: vr))) w') ->
            zC P f /\ Calls P f (args.toList.map a.eval).toArray w R := by
          intro e qH et cs h1 h2 h3 h5 R hR;obtain⟨hpc, hlen⟩ := qH.1 (bE ρ);have hlen : S.nv + (1 + aK.length) <= ρ.length := by
            rcases hlen with h0 | hlen
            . cases h0
            . simp only [bR]at hlen; omega
          have hev := Gt (ρ := ρ) (.sl s :: aK) S.nv (by simp only [bR]; omega);rw [<- hev]at hpc;obtain⟨s', c0, args', c1, vM, ea, er, FU, hcall⟩ := hpc.toG hf;simp only [gB, jG, kE, iG, Sh.sl.injEq]at ea;obtain⟨⟨rfl, rfl⟩, rfl⟩ := ea;simp only [jZ, gB, jG, kE, iG, true_and]at er;obtain⟨rfl, rfl⟩ := er;refine⟨FU, ?_⟩;rw [hlist];refine(hcall w _ et cs (a.eval x0) (xs.map a.eval) hrel.below.now h5 h1 h2 h3 V9).mono fun en w' => ?_;rintro⟨v1, vr, gM, cs', rfl, g1, g2, g3, g4⟩;exact hR w' v1 vr gM cs' g1 g2 g3 g4 (by omega)
        split at h
        . rename_i r m hx0
          split at h
          . rename_i s' e hor
            split at h
            . rename_i hok2
              simp only [bB, dQ, zl]at hok2;obtain⟨rfl, hnr⟩ := hok2;have hnr : r ∉ fz := by simpa using hnr
              simp only [dP, iG]at h;obtain⟨rfl, rfl, rfl, rfl⟩ := h;have hr := Ey hor;have tY : eu S.jd r = some (s, e, []) := by simp [eu, hr]
              obtain⟨hv0, _⟩ := (dD hrel (bE ρ) hx0).2 s e [] tY (bE ρ);obtain⟨et, cs, hown, hrd, _⟩ := hrel.rows.row r s e [] tY (bE ρ);have hsub : ∀ q ∈ oQ s aK fz, q ∈ fz := by
                intro q hq;unfold oQ at hq;split at hq
                . cases hq
                . exact hq
              have aCi : r ∉ oQ s aK fz := fun hc => hnr (hsub r hc);have H1 := hrel.FV (oQ s aK fz);rw [<- xP]at H1;have hr1 : (og (oQ s aK fz) S.jd)[r]? = some ⟨.row s e, false, []⟩ := by rw [avn aCi]; exact hr
              have Qb : r ≠ d := by
                rintro rfl;obtain⟨k, hk, hk2⟩ := hnew;rw [hr]at hk;injection hk with hk;subst hk;cases hk2
              obtain⟨FU, hcall⟩ := contract e ho et cs (by rw [hv0]; exact Ew hown fun _ _ _ => trivial) (hrd.mono (aS _) fun b hb _ => ⟨rfl,.inl hb⟩)
                (by
                  intro g hg hn;rw [hv0]at hg;rcases hn with hn | ⟨q, hq, hqg⟩
                  . exact hn.2 r _ hr rfl rfl (bE ρ) hg
                  . obtain⟨k2, e5, el, e4⟩ := hfz q hq
                    exact hrel.dist r q _ _ g hr e5 (fun e => hnr (e ▸ hq)) rfl el (bE ρ) e4 hg hqg)
                (by intro g hg; rw [hv0]at hg; exact hrel.below.own (hrel.lt hr rfl (bE ρ) hg).2)
                (R := fun en w' => ∃ v, en =.returned v /\ ∃ hv', aZ P N0 w0 ρ { tmps := eT S.tmps o.dst ⟨[], Bu d S.nv aK⟩, jd := ((og (oQ s aK fz) S.jd).set r ⟨.dead, false, []⟩).set d ⟨.row s (.vq S.nv), false, []⟩, nv := S.nv + (1 + aK.length) } hv' (a.put o.dst v) w')
                (by
                  intro w' v1 vr gM cs' g1 g2 g3 g4 hlen;rw [hv0]at g1 g2 g3 g4;refine⟨_, rfl, upd hv d v1, ?_⟩;have hown1 : ∀ g, dI (hv r) = some g -> w0.own g := fun g hg => (hrel.lt hr rfl (bE ρ) hg).2;have hdb : (((og (oQ s aK fz) S.jd).set r ⟨.dead, false, []⟩).set d ⟨.row s (.vq S.nv), false, []⟩)[d]? = some ⟨.row s (.vq S.nv), false, []⟩ := by
                    obtain⟨k, hk, _⟩ := M5 (fz := oQ s aK fz) hnew;have := (zy.1 hk).1;rw [nV (by simpa using this)]
                  have LZ : (s.iQ && aK.all Sh.iQ) = false -> ∀ b, Behind (NF (NN N0 w0.own ρ S.jd hv) hv fz) w (hv r) v1 b ->
                      NN N0 w0.own ρ (((og (oQ s aK fz) S.jd).set r ⟨.dead, false, []⟩).set d ⟨.row s (.vq S.nv), false, []⟩) (upd hv d v1) b := by
                    intro hpr b hb;refine afX hrel hfz hown1 (fun q k rU hq hl hfr => ?_) hb;rw [fZ (fun e => rU e.symm)]at hq;have hqr : q ≠ r := by
                      rintro rfl;have hlr := (zy.1 hr1).1;rw [nV hlr]at hq;injection hq with hq;subst hq;cases hl
                    rw [fZ (fun e => hqr e.symm), xP]at hq;obtain⟨q1, q2⟩ := afD hq hfr;refine⟨?_, q2, fun b' hp hb' => hrel.dist r q _ k b' hr q2 (fun e => hqr e.symm) rfl hl (bE ρ) hp hb'⟩;unfold oQ at q1;rwa [hpr]at q1
                  have H2 := H1.grows hr1 (M5 hnew) (v' := v1) (w' := w') (lb :=.row s (.vq S.nv)) rfl g1
                    (fun g hg => by
                      rcases g2.2 with⟨g5, _⟩ | ⟨g', cap, cur, g5, g6, _⟩
                      . rw [g5]at hg; cases hg
                      . rw [g5]at hg
                        injection hg with hg;subst hg;exact g6.symm)
                    (fun hkk => by
                      refine⟨gM, cs', ?_, ?_, hs0⟩
                      . simp only [upd, eO]
                        exact Ew g2 fun g _ hg => hg.elim (fun h => .inl (zw hrel.below.size h)) (hown1 g)
                      . by_cases hpr : (s.iQ && aK.all Sh.iQ) = true
                        . simp only [bB]at hpr
                          exact Sq hpr.1 g3
                        . exact g3.mono (aS _) fun b hb _ => ⟨rfl, LZ (by simpa using hpr) b hb⟩)
                  refine(H2.put o.dst [] _ _ (fun _ => ?_) (fun h => absurd (bE ρ) h)).nv _;refine acs hdb (by simp [upd]) ?_;by_cases hpr : (s.iQ && aK.all Sh.iQ) = true
                  . simp only [bB]at hpr
                    exact NG (afo hpr.2 hlen) g4
                  . exact g4.mono (aS _) fun b hb _ => ⟨rfl, LZ (by simpa using hpr) b hb⟩)
              unfold Oper.wp;rw [SL hop FU, Oper.upon_enter];refine hcall.mono fun en w' => ?_;rintro⟨v, rfl, hv', hR⟩;exact⟨hv', hR⟩
            . simp at h
          . simp at h
        . rename_i s' hx0
          split at h
          . rename_i hss
            subst hss;simp only [dP, iG]at h;obtain⟨rfl, rfl, rfl, rfl⟩ := h;obtain⟨vs, e1, e2, e3⟩ := dD hrel (bE ρ) hx0;simp only [Exact]at e3;subst e3;have hv0 : a.eval x0 =.slice none 0 0 := by rw [e2]; simp [Sh.mk, Sh.isAgg]
            obtain⟨FU, hcall⟩ := contract .bg ho 0 [] (by rw [hv0]; exact⟨by simp [E.eval],.inl ⟨rfl, by simp [E.eval]⟩⟩) (by simp [E.eval, cZ]) (by intro g hg; rw [hv0]at hg; cases hg) (by intro g hg; rw [hv0]at hg; cases hg)
              (R := fun en w' => ∃ v, en =.returned v /\ ∃ hv', aZ P N0 w0 ρ { tmps := eT S.tmps o.dst ⟨[], Bu d S.nv aK⟩, jd := (og (oQ s aK fz) S.jd).set d ⟨.row s (.vq S.nv), false, []⟩, nv := S.nv + (1 + aK.length) } hv' (a.put o.dst v) w')
              (by
                intro w' v1 vr gM cs' g1 g2 g3 g4 hlen;rw [hv0]at g1 g2 g3 g4;have hbel : Below w.heap.size w w' := ⟨g1.os, g1.tape, g1.output, g1.size, fun k hk => g1.block k hk (by simp [dI])⟩;exact⟨_, rfl, afE hrel hfz hnew hs0 hbel (Ew g2 fun g _ hg => hg.elim id (fun h => by cases h)) g3 g4 hlen⟩)
            unfold Oper.wp;rw [SL hop FU, Oper.upon_enter];refine hcall.mono fun en w' => ?_;rintro⟨v, rfl, hv', hR⟩;exact⟨hv', hR⟩
          . simp at h
        . simp at h
      . simp at h
    . simp at h
  . simp at h
theorem asM(hrel:aZ P N0 w0 ρ S hv a w){f d:Nat}{args:Array Operand}{ts:Array TypeId}(hop:o.op=.call {callee:=.value (.func f),args:=args,argTypes:=ts})
  {x:SX}{bs':List aL}{ji:List Ob}{n:Nat}(h:Fg P (S.ev P) S.jd S.nv o.type d f args.toList ts.toList=some (x,bs',ji,n)) (ho:fG P ρ S.nv ji):
  o.wp P a w (fun a' w'=>∃hv',aZ P N0 w0 ρ {tmps:=eT S.tmps o.dst ⟨[],x⟩,jd:=bs',nv:=S.nv+n} hv' a' w') Q:=by
 unfold Fg at h;split at h
 .rename_i s aK hrt;split at h
  .rename_i l fz ha;split at h
   .rename_i hok;simp only[bB,dQ]at hok;obtain⟨hs0,hfree,aCo⟩:=hok;have hs0:0<s.size:=by simp at hs0;omega
    have hnew:=Ng hfree;obtain⟨hfz,V9⟩:=GA hrel.rows (bE ρ) (fun o t x=>dD hrel (bE ρ)) ha;simp only[dP,iG]at h;obtain⟨rfl,rfl,rfl,rfl⟩:=h;obtain⟨hpc,hlen⟩:=ho.1 (bE ρ);have hlen:S.nv+(1+aK.length)<=ρ.length:=by
     rcases hlen with h0|hlen
     .cases h0
     .simp only[bR]at hlen;omega
    have hev:=Gt (ρ:=ρ) (.sl s::aK) S.nv (by simp only[bR];omega);rw[<-hev]at hpc;obtain⟨s',c1,vM,er,FU,hcall⟩:=hpc.toF aCo;simp only[jZ,gB,jG,kE,iG,Sh.sl.injEq]at er;obtain⟨⟨rfl,rfl⟩,rfl⟩:=er;unfold Oper.wp;rw[SL hop FU,Oper.upon_enter];refine(hcall w _ _ hrel.below.now V9).mono fun en w'=>?_;rintro⟨v1,vr,gM,cs',rfl,g1,g2,g3,g4⟩;exact afE hrel hfz hnew hs0 g1 g2 g3 g4 (by omega)
   simp at h
  .simp at h
 simp at h
theorem awk(hrel:aZ P N0 w0 ρ S hv a w){x:SX}{bs':List aL}{ji:List Ob}{n:Nat}(h:yS P cfg o (S.ev P) S.jd S.nv=some (x,bs',ji,n))(ho:fG P ρ S.nv ji):
  o.wp P a w (fun a' w'=>∃hv',aZ P N0 w0 ρ {tmps:=eT S.tmps o.dst ⟨[],x⟩,jd:=bs',nv:=S.nv+n} hv' a' w') Q:=by
 unfold yS at h;split at h
 .rename_i f args ts d hop hd;split at h
  .exact atX hrel hop h ho
  .split at h
   .exact asM hrel hop h ho
   .simp at h
 simp at h
end
section
variable{P:Program}{cfg:fF}{rb:Rb}{ev:Ev}{pc:bq}{nv:Nat}{o:Oper}{out:Out}
def H9(rb:Rb)(pc:bq)(dst:Option Tmp)(cs:List fV):Prop:=
 (∃f:List Nat,cs=f.map fV.bM)\/∃d lb,dst=some d/\cs=[fV.put d ⟨lb,false,pc⟩]/\jU rb d=true
theorem oK(rb:Rb)(pc:bq)(dst:Option Tmp):H9 rb pc dst []:=Or.inl ⟨[],rfl⟩
theorem awT{raw:Bool}{op:BinOp}{xt:TypeId}{s s':Sh}{x y:E}(h:BS P raw pc op xt s x s' y=some out):out.jq=[]:=by
 unfold BS at h;repeat' split at h
 all_goals first|(simp at h;done)|(simp at h;subst h;rfl)|(injection h with h;subst h;rfl)
theorem agr(h:yw P o pc ev=some out):out.jq=[]/\out.nv=0/\iA out.ji=0:=by
 unfold yw at h;repeat' split at h
 all_goals first|(simp at h;done)|(simp at h;subst h;simp[iA,Ob.vars];done)|(injection h with h;subst h;simp[iA,Ob.vars])
theorem SA(h:iI P cfg o pc ev rb nv=some out):(GN pc=true/\out= {x:=.none})\/(GN pc=false/\yw P o pc ev=some out)\/(GN pc=false/\yw P o pc ev=none/\nJ P cfg o pc ev rb nv=some out):=by
 unfold iI at h;split at h
 next hf=>injection h with h;exact .inl ⟨hf,h.symm⟩
 .rename_i hf;split at h
  next out' hx=>injection h with h;subst h;exact .inr (.inl ⟨by simpa using hf,hx⟩)
  next hx=>exact .inr (.inr ⟨by simpa using hf,hx,h⟩)
theorem aeU{t:TypeId}{f:Nat}{pre:List (Sh×E)}{args:List Operand}{ts:List TypeId}{d:Option Tmp}(h:uL P cfg ev rb pc nv t f pre args ts=some out):H9 rb pc d out.jq:=by
 unfold uL at h;split at h
 .split at h
  .rename_i aK _ _ _;simp only[dP]at h;subst h;by_cases hp:(‹List Sh›).all Sh.iQ=true
   .simp only[hp,eO];exact oK _ _ _
   simp only[hp];exact Or.inl ⟨_,rfl⟩
  .simp at h
 simp at h
theorem axv(h:vg P cfg o pc ev rb nv=some out):H9 rb pc o.dst out.jq:=by
 unfold vg at h;split at h
 .repeat' split at h
  all_goals first|exact aeU h|simp at h
 .simp at h
 .repeat' split at h
  all_goals first|exact aeU h|simp at h
 .repeat' split at h
  all_goals first|(simp at h;done)|(injection h with h;subst h;exact oK _ _ _)
 .split at h
  .rename_i d _ hd;split at h
   .split at h
    next hok=>simp only[bB]at hok;injection h with h;subst h;exact .inr ⟨_,_,hd,rfl,hok.1⟩
    simp at h
   .simp at h
  simp at h
 .split at h
  .rename_i d _ _ hd;split at h
   next hok=>injection h with h;subst h;exact .inr ⟨_,_,hd,rfl,hok⟩
   simp at h
  .simp at h
 simp at h
theorem awh(h:nJ P cfg o pc ev rb nv=some out):H9 rb pc o.dst out.jq:=by
 unfold nJ at h;split at h
 case h_1=>split at h<;>simp at h;subst h;exact oK _ _ _
 case h_2=>split at h<;>simp at h;subst h;exact oK _ _ _
 case h_3=>
  unfold Le at h;repeat' split at h
  all_goals first|(simp at h;done)|(simp at h;subst h;exact oK _ _ _)
 case h_4=>
  split at h
  .rw[awT h];exact oK _ _ _
  simp at h
 case h_5=>
  unfold Mh at h;split at h<;>first|(simp at h;done)|(simp at h;subst h;exact oK _ _ _)
 case h_6=>
  unfold Ip at h;repeat' split at h
  all_goals first|(simp at h;done)|(simp at h;subst h;exact oK _ _ _)
 case h_7=>
  repeat' split at h
  all_goals first|(simp at h;done)|(simp at h;subst h;exact oK _ _ _)
 case h_8=>
  unfold KU at h;repeat' split at h
  all_goals first|(simp at h;done)|(simp at h;subst h;exact oK _ _ _)
 case h_9=>
  unfold ET at h;repeat' split at h
  all_goals first|(simp at h;done)|(simp at h;subst h;exact Or.inl ⟨_,rfl⟩)
 case h_10=>
  split at h
  .unfold EJ at h;split at h
   .rename_i et d _ hd;split at h
    .simp at h
    split at h
    .rename_i hok;split at h
     .simp at h;subst h;simp only[bB]at hok;exact Or.inr ⟨d,_,hd,rfl,hok.1.1.1.1.1⟩
     .simp at h
    simp at h
   .simp at h
  unfold EG at h;repeat' split at h
  all_goals first|(simp at h;done)|(simp at h;subst h;exact Or.inl ⟨_,rfl⟩)
 case h_11=>
  unfold Fp at h;split at h
  .rename_i s d _ hd;split at h
   .split at h
    next hok=>simp at h;subst h;simp only[bB]at hok;exact Or.inr ⟨d,_,hd,rfl,hok.1.1⟩
    simp at h
   .simp at h
  simp at h
 case h_12=>
  unfold IZ at h;split at h
  .rename_i s e d _ hd;split at h
   next hok=>simp at h;subst h;simp only[bB]at hok;exact Or.inr ⟨d,_,hd,rfl,hok.1⟩
   simp at h
  .rename_i r n d _ hd;split at h
   .split at h
    next hok=>simp at h;subst h;simp only[bB]at hok;exact Or.inr ⟨d,_,hd,rfl,hok.1⟩
    simp at h
   .simp at h
  simp at h
 case h_13=>
  unfold BF at h;repeat' split at h
  all_goals first|(simp at h;done)|(simp at h;subst h;first|exact oK _ _ _|exact Or.inl ⟨_,rfl⟩)
 case h_14=>
  unfold IG at h;repeat' split at h
  all_goals first|(simp at h;done)|(simp at h;subst h;exact oK _ _ _)
 case h_15=>
  unfold H6 at h;repeat' split at h
  all_goals first|(simp at h;done)|(simp at h;subst h;exact oK _ _ _)
 case h_16=>
  unfold Bw Bo BX at h;repeat' split at h
  all_goals first|(simp at h;done)|(simp at h;subst h;exact oK _ _ _)
 case h_17=>
  unfold KO at h;repeat' split at h
  all_goals first|(simp at h;done)|(simp at h;subst h;exact oK _ _ _)
 case h_18=>
  unfold EZ at h;repeat' split at h
  all_goals first|(simp at h;done)|(simp at h;subst h;exact oK _ _ _)
 case h_19=>
  unfold FD at h;split at h
  .rename_i et kl l kc c d _ _ _ hd;split at h
   .simp at h
   .split at h
    .split at h
     next hok=>simp at h;subst h;simp only[bB]at hok;exact Or.inr ⟨d,_,hd,rfl,hok.1.1.1⟩
     simp at h
    .simp at h
  simp at h
 case h_20=>
  unfold xR II Eb at h;repeat' split at h
  all_goals first|(simp at h;done)|(simp at h;subst h;exact oK _ _ _)
 case h_21=>
  split at h
  .simp at h
  split at h
  .unfold BI at h;split at h
   .simp only[dP]at h;subst h;exact oK _ _ _
   .simp at h
  unfold BH at h;split at h
  .split at h
   .simp only[dP]at h;subst h;by_cases hp:(‹List Sh›).all Sh.iQ=true
    .simp only[hp,eO];exact oK _ _ _
    simp only[hp];exact Or.inl ⟨_,rfl⟩
   .simp at h
  simp at h
 case h_22=>exact axv h
theorem axw(h:iI P cfg o pc ev rb nv=some out):H9 rb pc o.dst out.jq:=by
 rcases SA h with⟨_,rfl⟩|⟨_,h⟩|⟨_,_,h⟩
 .exact oK _ _ _
 .rw[(agr h).1];exact oK _ _ _
 exact awh h
end
section
variable{P:Program}{cfg:fF}{N0:Nat->Prop}{w0:Wb}{ρ:List C}{S S':SS}{hv:Nat->Value}{a:Act}{w:World}{o:Oper}{Q:Exit->Act->World->Prop}{ji:List Ob}
theorem auY(hrel:aZ P N0 w0 ρ S hv a w){pc:bq}(hp:¬bF ρ pc){out:Out}(hc:H9 S.rb pc o.dst out.jq):
  ∃hv',aZ P N0 w0 ρ {tmps:=eT S.tmps o.dst ⟨pc,out.x⟩,jd:=bP out.jq S.jd,nv:=S.nv+out.nv} hv' (a.put o.dst undef) w:=by
 rcases hc with⟨f,hc⟩|⟨d,lb,hd,hc,hn⟩
 .rw[hc];exact⟨hv,((hrel.FV f).put o.dst pc out.x undef (fun h=>absurd h hp) (fun _=>rfl)).nv _⟩
 rw[hc];have h1:=(hrel.new (J7 hn) lb pc undef (eD _ _) (fun g hg=>by simp[dI,undef]at hg) (fun h=>absurd h hp)).1;exact⟨_,(h1.put o.dst pc out.x undef (fun h=>absurd h hp) (fun _=>rfl)).nv _⟩
theorem atW(hrel:aZ P N0 w0 ρ S hv a w){ops:List Oper}{pc:bq}(h:wF S ops o=some pc):
  (bF ρ pc->Region.wanted o (yielded ops.toArray a.tmps)=true)/\(¬bF ρ pc->Region.wanted o (yielded ops.toArray a.tmps)=false):=by
 unfold wF at h;unfold Region.wanted;split at h
 next hg=>simp at h;subst h;rw[hg];exact⟨fun _=>rfl,fun h=>absurd (bE ρ) h⟩
 .rename_i j want hg;rw[hg];split at h
  .rename_i p e ht;simp at h;subst h;obtain⟨d,hd,hts⟩:=vV.1 ht;have hlt:d<a.tmps.size:=by rw[hrel.Co];exact(zy.1 hts).1
   have hy:∀v,a.tmps.getD d undef=v->yielded ops.toArray a.tmps j=(match v with| .bool b=>some b|_=>none):=by
    intro v hv;have h1:a.tmps[d]?=some v:=by rw[Mf hlt];simpa[Array.getD,hlt]using hv
    unfold yielded;have h2:(ops.toArray[j]?).bind (·.dst)=some d:=by simpa using hd
    rw[h2];simp[h1];cases v<;>rfl
   constructor
   .intro hp;obtain⟨h1,h2⟩:=Gs.1 hp;rw[Gr]at h2;have h3:=hrel.tmps d _ hts h1;rw[nD]at h3;simp[hy _ h3,h2]
   .intro hp;by_cases h1:bF ρ p
    .have h3:=hrel.tmps d _ hts h1;rw[nD]at h3;have h4:¬(e.eval ρ).toBool=want:=fun h=>hp (Gs.2 ⟨h1,Gr.2 h⟩);simp[hy _ h3];exact h4
    .have h3:=hrel.und d _ hts h1;simp[hy _ h3,undef]
  simp at h
theorem awi(hrel:aZ P N0 w0 ρ S hv a w){x:SX}{bs':List aL}(h:yR P cfg o (S.ev P) S.jd=some (x,bs',ji))(ho:fG P ρ S.nv ji):
  o.wp P a w (fun a' w'=>∃hv',aZ P N0 w0 ρ {S with tmps:=eT S.tmps o.dst ⟨[],x⟩,jd:=bs'} hv' a' w') Q:=by
 unfold yR at h;split at h
 .rename_i t ad y hop;split at h
  next Gi hb=>simp at h;obtain⟨rfl,rfl,rfl⟩:=h;exact ase hrel hop hb
  simp at h
 .rename_i args ts hop;split at h
  next x1 y1 d hargs hd=>obtain⟨al⟩:=args;simp only at hargs;subst hargs;exact arX hrel hop h ho
  simp at h
 .rename_i args ts hop;split at h
  .rename_i x1 y1 hargs;obtain⟨al⟩:=args;simp only at hargs;subst hargs;split at h
   next x2 Gi hb=>simp at h;obtain⟨rfl,rfl,rfl⟩:=h;exact aul hrel hop hb
   .simp at h
  simp at h
 .rename_i src dst x1 hop;split at h
  .rename_i hsd;subst hsd;split at h
   next s e r hb=>simp at h;obtain⟨rfl,rfl,rfl⟩:=h;exact atO hrel hop hb
   .simp at h
  simp at h
 .rename_i t m k x1 hop;split at h
  next r b hb=>simp at h;obtain⟨rfl,rfl,rfl⟩:=h;exact atJ hrel hop hb
  simp at h
 .rename_i it hop;split at h
  next x1 r b hb=>simp at h;obtain⟨rfl,rfl,rfl⟩:=h;exact atI hrel hop hb
  .simp at h
 simp at h
theorem RU(hrel:aZ P N0 w0 ρ S hv a w){ops:List Oper}(h:uM P cfg ops o S=some (S',ji))(ho:fG P ρ S.nv ji):
  if Region.wanted o (yielded ops.toArray a.tmps)=true then o.wp P a w (fun a' w'=>∃hv',aZ P N0 w0 ρ S' hv' a' w') Q else ∃hv',aZ P N0 w0 ρ S' hv' (a.put o.dst undef) w:=by
 unfold uM at h;split at h
 .simp at h
 .rename_i pc hg;obtain⟨g1,g2⟩:=atW hrel hg;split at h
  .split at h
   .rename_i hpc;subst hpc;cases hw:yR P cfg o (S.ev P) S.jd with
    |none=>simp[hw]at h
    |some y=>
     obtain⟨x,bs,ob⟩:=y;simp[hw]at h;obtain⟨_,rfl,rfl⟩:=h;rw[aC (g1 (bE ρ))];exact awi hrel hw ho
   .simp at h
  split at h
  .split at h
   .rename_i hpc;subst hpc;cases hw:yS P cfg o (S.ev P) S.jd S.nv with
    |none=>simp[hw]at h
    |some y=>
     obtain⟨x,bs,ob,n⟩:=y;simp[hw]at h;obtain⟨_,rfl,rfl⟩:=h;rw[aC (g1 (bE ρ))];exact awk hrel hw ho
   .simp at h
  cases hx:iI P cfg o pc (S.ev P) S.rb S.nv with
  |none=>simp[hx]at h
  |some out=>
   simp[hx]at h;obtain⟨_,rfl,rfl⟩:=h;by_cases hp:bF ρ pc
   .rw[aC (g1 hp)];exact awg hrel hp hx ho
   rw[zq (by rw[g2 hp];simp)];exact auY hrel hp (axw hx)
theorem xS{ops:List Oper}(h:uM P cfg ops o S=some (S',ji)):S'.nv=S.nv+(ji.map Ob.vars).sum:=by
 unfold uM at h;split at h
 .simp at h
 split at h
 .split at h
  .split at h
   .split at h
    next hv=>simp at h;obtain⟨rfl,rfl⟩:=h;simp only[iA]at hv;simp[hv]
    .simp at h
   simp at h
  .simp at h
 split at h
 .split at h
  .split at h
   .split at h
    next hv=>simp at h;obtain⟨rfl,rfl⟩:=h;simp only[iA]at hv;simp[hv]
    .simp at h
   simp at h
  .simp at h
 split at h
 .split at h
  next hv=>simp at h;obtain⟨rfl,rfl⟩:=h;simp only[iA]at hv;simp[hv]
  .simp at h
 simp at h
theorem Ro{ops:List Oper}:∀{l:List Oper}{S S':SS}{hv:Nat->Value}{a:Act}{w:World}{ji:List Ob},aZ P N0 w0 ρ S hv a w->oM P cfg ops l S=some (S',ji)->fG P ρ S.nv ji->
  (∀a' w',(∃hv',aZ P N0 w0 ρ S' hv' a' w')->Q .normal a' w')->wpList P ops.toArray Q l a w
 | [],S,S',hv,a,w,ji,hrel,h,ho,hq=>by
  simp[oM]at h;obtain⟨rfl,rfl⟩:=h;exact hq a w ⟨hv,hrel⟩
 |o::l,S,S',hv,a,w,ji,hrel,h,ho,hq=>by
  simp only[oM]at h;split at h
  .simp at h
  .rename_i S1 nu h1;split at h
   .simp at h
   .rename_i S2 jX h2;simp at h;obtain⟨rfl,rfl⟩:=h;rw[xO]at ho;have hst:=RU (Q:=Q) hrel h1 ho.1;have ho2:fG P ρ S1.nv jX:=by rw[xS h1];exact ho.2
    refine wpList_step fun K hK=>?_;split
    next hw=>rw[aC hw]at hst;exact Oper.wp_mono (fun a' w' ⟨hv',hr'⟩=>hK a' w' (Ro hr' h2 ho2 hq)) hst
    next hw=>rw[zq hw]at hst;obtain⟨hv',hr'⟩:=hst;exact hK _ _ (Ro hr' h2 ho2 hq)
end
end Go.Vc
namespace Go.Vc
section
variable{P:Program}{cfg:fF}{rb eH:Rb}{ev ev':Ev}{pc:bq}{nv qY:Nat}{o:Oper}{out:Out}
def mM(l:List Operand)(ev ev':Ev):Prop:=∀x∈l,∀pc t,ev pc x t=ev' pc x t
theorem Et:∀{l:List Operand}{ts:List TypeId},mM l ev ev'->pK ev rb pc l ts=pK ev' rb pc l ts
 | [],_,_=>rfl
 |x::l,ts,h=>by
  simp only[pK];rw[h x (by simp),Et (l:=l) fun y hy=>h y (by simp[hy])]
theorem adi{ft:Nat->TypeId}:∀{l:List (Nat×Operand)} {m:List (Sh×E)},mM (l.map (·.2)) ev ev'->qj ev rb pc ft m l=qj ev' rb pc ft m l
 | [],_,_=>rfl
 |(i,x)::l,m,h=>by
  simp only[qj];rw[h x (by simp)];have ih:∀m,qj ev rb pc ft m l=qj ev' rb pc ft m l:=fun m=>adi (l:=l) fun y hy=>h y (by simp[gP]at hy |-;exact .inr hy);simp only[ih]
theorem adb{t:TypeId}{s:Sh}:∀{l:List (Nat×Operand)} {k:Nat},mM (l.map (·.2)) ev ev'->qM ev rb pc t s k l=qM ev' rb pc t s k l
 | [],_,_=>rfl
 |(i,x)::l,k,h=>by
  simp only[qM];rw[h x (by simp),adb (l:=l) fun y hy=>h y (by simp[gP]at hy |-;exact .inr hy)]
theorem aqs{b:Builtin}{l:List Operand}{ts:Array TypeId}(h:mM l ev ev'):xR P ev rb pc b l ts=xR P ev' rb pc b l ts:=by
 unfold xR;split<;>simp_all[mM]
theorem M8{t:TypeId}{f:Nat}{pre:List (Sh×E)}{args:List Operand}{ts:List TypeId}(h:mM args ev ev'):uL P cfg ev rb pc nv t f pre args ts=uL P cfg ev' rb pc nv t f pre args ts:=by
 unfold uL;rw[Et h]
theorem aur{rs:Option (List Sh)}{f:Nat}{args:List Operand}{ts:List TypeId}(h:mM args ev ev'):BH P rs ev rb pc nv f args ts=BH P rs ev' rb pc nv f args ts:=by
 unfold BH;rw[Et h]
theorem aut{t:TypeId}{f:Nat}{args:List Operand}{ts:List TypeId}(h:mM args ev ev'):BI P ev rb pc nv t f args ts=BI P ev' rb pc nv t f args ts:=by
 unfold BI;rw[Et h]
theorem au4(h:mM o.op.operands.toList ev ev'):yw P o pc ev=yw P o pc ev':=by
 unfold yw;generalize o.op=op at h;cases op<;>simp only[Op.operands]at h<;>(try rfl)
 case makeFunc fn first captured=>
  cases fn with
  |method name=>
   simp only;split
   next x h1 h2=>have hx:∀pc t,ev pc x t=ev' pc x t:=h x (by simp[h1]);simp only[hx]
   rfl
  |_=>rfl
 all_goals (simp_all[mM];done)
theorem ava(h:mM o.op.operands.toList ev ev'):nJ P cfg o pc ev rb nv=nJ P cfg o pc ev' rb nv:=by
 unfold nJ vg;generalize o.op=op at h;cases op<;>simp only[Op.operands]at h<;>(try rfl)
 case build t ps=>
  simp only[ET];repeat' split
  all_goals first|rfl|skip
  all_goals simp_all[adi (rb:=rb) (pc:=pc) (l:=ps.toList) (by simpa using h)]
 case buildSlice t n ps=>
  have h':mM (ps.toList.map (·.2)) ev ev':=by simpa using h
  simp only[EJ,EG,adb h']
 case slice t x lo hi mx=>
  cases mx with
  |some _=>rfl
  |none=>
   have hx:∀pc t,ev pc x t=ev' pc x t:=h x (by simp);have hb:∀(d:E) (y:Option Operand),(∀z,y=some z->z∈ #[x]++lo.toArray++hi.toArray++(none:Option Operand).toArray)->wL ev pc d y=wL ev' pc d y:=by
    intro d y hy;cases y with
    |none=>rfl
    |some z=>simp only[wL];rw[h z (by simpa using hy z rfl)]
   simp only[EZ];rw[hx,hb _ lo (fun z hz=>by subst hz;simp)];have hh:∀d,wL ev pc d hi=wL ev' pc d hi:=fun d=>hb d hi (fun z hz=>by subst hz;simp);simp only[hh]
 case call c=>
  obtain⟨callee,args,ts⟩:=c;have ha:mM args.toList ev ev':=fun x hx=>h x (by simp[Call.operands];exact .inr (by simpa using hx));cases callee with
  |builtin b=>
   exact aqs ha
  |value f=>
   have hf:∀pc t,ev pc f t=ev' pc f t:=h f (by simp[Call.operands]);cases f with
   |func g=>simp only[aur ha,aut ha]
   |tmp i=>simp only[hf,M8 ha]
   |const v=>simp only[hf,M8 ha]
   |global g=>simp only[hf,M8 ha]
  |invoke r m=>
   have hr:∀pc t,ev pc r t=ev' pc r t:=h r (by simp[Call.operands]);simp only[hr,M8 ha]
 case makeMap t r=>cases r<;>rfl
 all_goals (simp_all[mM];done)
theorem afs(h:mM o.op.operands.toList ev ev'):iI P cfg o pc ev rb nv=iI P cfg o pc ev' rb nv:=by
 unfold iI;rw[au4 h,ava h]
theorem awj{bs:List aL}(h:mM o.op.operands.toList ev ev'):yR P cfg o ev bs=yR P cfg o ev' bs:=by
 unfold yR;generalize o.op=op at h;cases op<;>simp only[Op.operands]at h<;>(try rfl)
 case store t a x=>
  simp only;rw[h a (by simp),h x (by simp)]
 case call c=>
  obtain⟨callee,args,ts⟩:=c;have ha:mM args.toList ev ev':=fun x hx=>h x (by simp[Call.operands];exact .inr (by simpa using hx));cases callee with
  |builtin b=>
   cases b<;>simp only
   .split
    next x y d hl hd=>rw[ha x (by simp[hl]),ha y (by simp[hl])]
    .rfl
   split
   next x y hl=>rw[ha x (by simp[hl]),ha y (by simp[hl])]
   rfl
  |value f=>rfl
  |invoke r m=>rfl
 case convert src dst x=>
  simp only;rw[h x (by simp)]
 case mapUpdate t m k x=>
  simp only;rw[h m (by simp),h k (by simp),h x (by simp)]
 case next it b=>
  cases b with
  |true=>simp only;rw[h it (by simp)]
  |false=>rfl
theorem awl{bs:List aL}(h:mM o.op.operands.toList ev ev'):yS P cfg o ev bs nv=yS P cfg o ev' bs nv:=by
 unfold yS;generalize o.op=op at h;cases op<;>simp only[Op.operands]at h<;>(try rfl)
 case call c=>
  obtain⟨callee,args,ts⟩:=c;have ha:mM args.toList ev ev':=fun x hx=>h x (by simp[Call.operands];exact .inr (by simpa using hx));cases callee with
  |builtin b=>rfl
  |value f=>
   cases f with
   |func g=>
    cases hd:o.dst with
    |none=>rfl
    |some d=>
     simp only;obtain⟨al⟩:=args;have e1:Fg P ev bs nv o.type d g al ts.toList=Fg P ev' bs nv o.type d g al ts.toList:=by
      unfold Fg;rw[Et ha]
     have e2:Im P ev bs nv o.type d g al ts.toList=Im P ev' bs nv o.type d g al ts.toList:=by
      unfold Im;cases al with
      |nil=>cases Fw P o.type with
       |none=>rfl
       |some l=>cases l with
        |nil=>rfl
        |cons s r=>cases s<;>rfl
      |cons x xs=>
       have h1:mM xs ev ev':=fun y hy=>ha y (by simp[hy]);have h2:∀pc t,ev pc x t=ev' pc x t:=ha x (by simp);cases Fw P o.type with
       |none=>rfl
       |some l=>cases l with
        |nil=>rfl
        |cons s r=>cases s<;>first|rfl|(simp only;rw[Et h1,h2])
     simp only[e1,e2]
   |_=>rfl
  |invoke r m=>rfl
def qz(rb eH:Rb):Prop:=∀r b,rb r=some b->b.lb≠.none->eH r=some b
theorem zA(le:qz rb eH){r:Nat}{y:Sh×E}(h:rowOf rb pc r=some y):rowOf eH pc r=some y:=by
 unfold rowOf at h |-;split at h
 next s e p hr=>rw[le r _ hr (by simp)];exact h
 simp at h
theorem agA(le:qz rb eH){r:Nat}{y:IntKind×Sh×E}(h:mapOf rb pc r=some y):mapOf eH pc r=some y:=by
 unfold mapOf at h |-;split at h
 next k s e p hr=>rw[le r _ hr (by simp)];exact h
 simp at h
theorem axH(le:qz rb eH){x:Option SX}{y:IntKind×Sh×E}(h:Ik rb pc x=some y):Ik eH pc x=some y:=by
 unfold Ik at h |-;split at h
 .exact h
 .exact agA le h
 simp at h
theorem G6(le:qz rb eH){x:SX}{y:Sh×E×List Nat}(h:lg rb pc x=some y):lg eH pc x=some y:=by
 unfold lg at h |-;split at h
 .exact h
 .split at h
  next hr=>rw[zA le hr];exact h
  simp at h
 .split at h
  next hr=>rw[zA le hr];exact h
  simp at h
 .exact h
 .split at h
  next hr=>rw[agA le hr];exact h
  .simp at h
 simp at h
theorem CZ(le:qz rb eH){s:Sh}{l:List SX}{y:E×List Nat×List SX}(h:uK rb pc s l=some y):uK eH pc s l=some y:=by
 cases l with
 |nil=>simp[uK]at h
 |cons x l=>
  simp only[uK]at h |-;split at h
  next hd=>rw[G6 le hd];exact h
  simp at h
theorem Sr(le:qz rb eH):∀{s:Sh}{l:List SX}{y:E×List Nat×List SX},fT rb pc s l=some y->fT eH pc s l=some y
 | .je,_,_,h=>by simpa[fT]using h
 | .jc a b,l,y,h=>by
  simp only[fT]at h |-;split at h
  .rename_i hb;rw[aC hb];split at h
   .rename_i x f r h1;rw[Sr le h1];simp only;split at h
    next h2=>rw[Sr le h2];exact h
    simp at h
   .simp at h
  simp at h
 | .int k,_,_,h=>by simp only[fT]at h |-;exact CZ le h
 | .bool,_,_,h=>by simp only[fT]at h |-;exact CZ le h
 | .str,_,_,h=>by simp only[fT]at h |-;exact CZ le h
 | .sl s,_,_,h=>by simp only[fT]at h |-;exact CZ le h
 | .dB _ s,_,_,h=>by simp only[fT]at h |-;exact CZ le h
 | .kP,_,_,h=>by simp only[fT]at h |-;exact CZ le h
 | .fH _,_,_,h=>by simp only[fT]at h |-;exact CZ le h
 | .mp _ s,_,_,h=>by simp only[fT]at h |-;exact CZ le h
theorem UJ(le:qz rb eH){x:Option SX}{y:Sh×E×List Nat}(h:x.bind (lg rb pc)=some y):x.bind (lg eH pc)=some y:=by
 cases x with
 |none=>simp at h
 |some x=>exact G6 le h
theorem Kl(le:qz rb eH):∀{l:List Operand}{ts:List TypeId}{y:List (Sh×E)×List Nat},pK ev rb pc l ts=some y->pK ev eH pc l ts=some y
 | [],_,_,h=>h
 |x::l,ts,y,h=>by
  simp only[pK]at h |-;split at h
  next h1 h2=>rw[UJ le h1,Kl le h2];exact h
  simp at h
theorem afV(le:qz rb eH){ft:Nat->TypeId}:∀{l:List (Nat×Operand)} {m:List (Sh×E)} {y:List (Sh×E)×List Nat},qj ev rb pc ft m l=some y->qj ev eH pc ft m l=some y
 | [],_,_,h=>h
 |(i,x)::l,m,y,h=>by
  simp only[qj]at h |-;split at h
  .rename_i h1 h2;rw[UJ le h1,h2];simp only;split at h
   .rename_i hs;rw[aC hs];cases hb:qj ev rb pc ft (m.set i _) l with
    |none=>rw[hb]at h;simp at h
    |some z=>
     rw[afV le hb];rw[hb]at h;exact h
   .simp at h
  simp at h
theorem SQ(le:qz rb eH){t:TypeId}{s:Sh}:∀{l:List (Nat×Operand)} {k:Nat}{y:E×List Nat},qM ev rb pc t s k l=some y->qM ev eH pc t s k l=some y
 | [],_,_,h=>h
 |(i,x)::l,k,y,h=>by
  simp only[qM]at h |-;split at h
  .simp at h
  .rename_i hi;rw[zq hi];split at h
   next h1 h2=>rw[UJ le h1,SQ le h2];exact h
   simp at h
theorem TN(le:qz rb eH){r:Nat}(h:rA rb pc r=true):rA eH pc r=true:=by
 unfold rA at h |-;split at h
 next hr=>rw[le r _ hr (by simp)];exact h
 next hr=>rw[le r _ hr (by simp)];exact h
 simp at h
theorem azP(le:qz rb eH){t:TypeId}{x:Option SX}{i:Option (IntKind×E)}{out:Out}(h:BX P rb pc t x i=some out):BX P eH pc t x i=some out:=by
 unfold BX at h |-;split at h
 .rename_i hu
  (try simp only[hu])
  split at h
  .rename_i hf
   (try simp only[hf])
   split at h
   next hok=>simp only[bB]at hok;rw[aC (by simp only[bB];exact⟨hok.1,hok.2.1,hok.2.2.1,TN le hok.2.2.2⟩)];exact h
   cases h
  .cases h
 cases h
theorem ag6(le:qz rb eH){t:TypeId}{f:Nat}{pre:List (Sh×E)}{args:List Operand}{ts:List TypeId}(h:uL P cfg ev rb pc nv t f pre args ts=some out):uL P cfg ev eH pc nv t f pre args ts=some out:=by
 unfold uL at h |-;split at h
 next h1 h2=>rw[Kl le h1];simpa[h2]using h
 simp at h
theorem aAm(le:qz rb eH)(hn:∀d,o.dst=some d->jU rb d=true->jU eH d=true)(h:vg P cfg o pc ev rb nv=some out):vg P cfg o pc ev eH nv=some out:=by
 unfold vg at h |-;split at h
 .split at h
  .split at h
   .exact ag6 le h
   .simp at h
  simp at h
 .simp at h
 .split at h
  .exact ag6 le h
  simp at h
 .split at h
  next h1 h2 h3=>simp only[h1,h2,axH le h3];exact h
  simp at h
 .split at h
  .rename_i d h1 h2;split at h
   .rename_i hs;split at h
    next hok=>simp only[bB]at hok;simpa[hn _ h2 hok.1,hok.2]using h
    simp at h
   .simp at h
  simp at h
 .split at h
  .rename_i h1 h2 h3;split at h
   next hok=>simpa[hn _ h3 hok]using h
   simp at h
  .simp at h
 simp at h
theorem aza(le:qz rb eH)(hn:∀d,o.dst=some d->jU rb d=true->jU eH d=true)(h:nJ P cfg o pc ev rb nv=some out):nJ P cfg o pc ev eH nv=some out:=by
 unfold nJ at h |-;split at h
 case h_1=>exact h
 case h_2=>exact h
 case h_3=>exact h
 case h_4=>exact h
 case h_5=>exact h
 case h_6=>
  unfold Ip at h |-;split at h
  .simp_all
  .simp_all
  .split at h
   next h1 h2=>simp_all[G6 le h2]
   simp at h
  .simp_all
  simp at h
 case h_7=>exact h
 case h_8=>exact h
 case h_9=>
  unfold ET at h |-;split at h
  .rename_i h1 h2
   (try rw[h1];try rw[h2])
   try simp only
   split at h
   .rename_i hs
    (try rw[aC hs])
    split at h
    .rename_i l hl
     (try rw[hl])
     try simp only
     split at h
     .rename_i hb
      (try rw[afV le hb])
      exact h
     .simp at h
    simp at h
   .simp at h
  simp at h
 case h_10=>
  split at h
  .rename_i hr
   (try rw[aC hr])
   unfold EJ at h |-;split at h
   .rename_i et d h1 hd
    (try rw[h1];try rw[hd])
    try simp only
    split at h
    .simp at h
    .rename_i s hs
     (try rw[hs])
     try simp only
     split at h
     .rename_i hok;have hok':=hok;simp only[bB]at hok'
      (try rw[aC (by simp only[bB];exact⟨⟨⟨⟨⟨hn d hd hok'.1.1.1.1.1,hok'.1.1.1.1.2⟩,hok'.1.1.1.2⟩,hok'.1.1.2⟩,hok'.1.2⟩,hok'.2⟩)])
      split at h
      .rename_i he
       (try rw[SQ le he])
       exact h
      simp at h
     .simp at h
   simp at h
  .rename_i hr
   (try rw[zq hr])
   unfold EG at h |-;split at h
   .simp at h
   .rename_i et h1
    (try rw[h1])
    try simp only
    split at h
    .simp at h
    .rename_i s hs
     (try rw[hs])
     try simp only
     split at h
     .rename_i hok
      (try rw[aC hok])
      split at h
      .rename_i he
       (try rw[SQ le he])
       exact h
      .simp at h
     simp at h
 case h_11=>
  unfold Fp at h |-;split at h
  .rename_i s d h1 hd
   (try rw[h1];try rw[hd])
   try simp only
   split at h
   .rename_i e he
    (try rw[he])
    try simp only
    split at h
    .rename_i hok;simp only[bB]at hok
     (try rw[aC (by simp only[bB];exact⟨⟨hn d hd hok.1.1,hok.1.2⟩,hok.2⟩)])
     exact h
    simp at h
   .simp at h
  simp at h
 case h_12=>
  unfold IZ at h |-;split at h
  .rename_i s e d hx hd
   (try rw[hx];try rw[hd])
   try simp only
   split at h
   .rename_i hok;simp only[bB]at hok
    (try rw[aC (by simp only[bB];exact⟨hn d hd hok.1,hok.2⟩)])
    exact h
   simp at h
  .rename_i r n d hx hd
   (try rw[hx];try rw[hd])
   try simp only
   split at h
   .rename_i s e hr
    (try rw[zA le hr])
    try simp only
    split at h
    .rename_i hok;simp only[bB]at hok
     (try rw[aC (by simp only[bB];exact⟨hn d hd hok.1,hok.2⟩)])
     exact h
    simp at h
   .simp at h
  simp at h
 case h_13=>
  unfold BF at h |-;split at h
  next hx=>(try rw[hx]);exact h
  .rename_i hx
   (try rw[hx])
   try simp only
   split at h
   .rename_i hf
    (try rw[aC hf])
    split at h
    next hr=>(try rw[le _ _ hr (by simp)]);exact h
    .rename_i hr
     (try rw[le _ _ hr (by simp)])
     try simp only
     split at h
     .rename_i hp
      (try rw[aC hp])
      split at h
      .rename_i ha
       (try rw[aC ha])
       split at h
       next hu=>(try rw[Sr le hu]);exact h
       simp at h
      .rename_i ha
       (try rw[zq ha])
       exact h
     .simp at h
    simp at h
   .simp at h
  simp at h
 case h_14=>
  unfold IG at h |-;split at h
  .rename_i hx
   (try rw[hx])
   try simp only
   split at h
   next hl=>(try rw[aC (TN le hl)]);exact h
   simp at h
  next hx=>(try rw[hx]);exact h
  next hx=>(try rw[hx]);exact h
  simp at h
 case h_15=>
  unfold H6 at h |-;split at h
  .rename_i hx ht
   (try rw[hx];try rw[ht])
   try simp only
   split at h
   .rename_i h1 h2
    (try rw[h1];try rw[h2])
    try simp only
    split at h
    .rename_i hok;simp only[bB]at hok
     (try rw[aC (by simp only[bB];exact⟨hok.1,TN le hok.2⟩)])
     split at h
     next hr=>(try rw[le _ _ hr (by simp)]);exact h
     next hr=>(try rw[le _ _ hr (by simp)]);exact h
     simp at h
    .simp at h
   simp at h
  next hx ht=>(try rw[hx];try rw[ht]);exact h
  simp at h
 case h_16=>
  unfold Bw at h |-;cases hel:rY P _ with
  |none=>simp only[hel]at h |-;exact azP le h
  |some _=>
  simp only[hel]at h |-;clear hel;unfold Bo at h |-;split at h
  next h1 h2 h3=>(try rw[h1];try rw[h2];try rw[h3]);exact h
  .rename_i h1 h2 h3
   (try rw[h1];try rw[h2];try rw[h3])
   try simp only
   split at h
   next hr=>(try rw[zA le hr]);exact h
   simp at h
  .rename_i h1 h2 h3
   (try rw[h1];try rw[h2];try rw[h3])
   try simp only
   split at h
   next hr=>(try rw[zA le hr]);exact h
   .simp at h
  simp at h
 case h_17=>exact h
 case h_18=>
  unfold EZ at h |-;split at h
  next h1 h2 h3=>(try rw[h1];try rw[h2];try rw[h3]);exact h
  next h1 h2 h3=>(try rw[h1];try rw[h2];try rw[h3]);exact h
  .rename_i h1 h2 h3
   (try rw[h1];try rw[h2];try rw[h3])
   try simp only
   split at h
   next hr hb=>(try rw[zA le hr];try rw[hb]);exact h
   simp at h
  .rename_i h1 h2 h3
   (try rw[h1];try rw[h2];try rw[h3])
   try simp only
   split at h
   next hr hb=>(try rw[zA le hr];try rw[hb]);exact h
   .simp at h
  simp at h
 case h_19=>
  unfold FD at h |-;split at h
  .rename_i et kl l kc c d h1 h2 h3 hd
   (try rw[h1];try rw[h2];try rw[h3];try rw[hd])
   try simp only
   split at h
   .simp at h
   .rename_i s hs
    (try rw[hs])
    try simp only
    split at h
    .rename_i z hz
     (try rw[hz])
     try simp only
     split at h
     .rename_i hok;simp only[bB]at hok
      (try rw[aC (by simp only[bB];exact⟨⟨⟨hn d hd hok.1.1.1,hok.1.1.2⟩,hok.1.2⟩,hok.2⟩)])
      exact h
     simp at h
    .simp at h
  simp at h
 case h_20=>
  unfold xR at h |-;split at h
  .unfold II at h |-;split at h
   next h1 h2=>(try rw[h1];try rw[h2]);exact h
   next h1 h2=>(try rw[h1];try rw[h2]);exact h
   .rename_i h1 h2
    (try rw[h1];try rw[h2])
    try simp only
    split at h
    next hr=>(try rw[zA le hr]);exact h
    simp at h
   .rename_i h1 h2
    (try rw[h1];try rw[h2])
    try simp only
    split at h
    next hr=>(try rw[zA le hr]);exact h
    .simp at h
   simp at h
  .simp_all
  .simp_all
  simp at h
 case h_21=>
  split at h
  .simp at h
  .rename_i hown;rw[zq hown];split at h
   .rename_i hnil;rw[aC hnil];unfold BI at h |-;split at h
    .rename_i h1 h2
     (try rw[Kl le h1];try rw[h2])
     exact h
    simp at h
   .rename_i hnil;rw[zq hnil];unfold BH at h |-;split at h
    .rename_i h1 h2
     (try rw[Kl le h1];try rw[h2])
     exact h
    simp at h
 case h_22=>exact aAm le hn h
theorem aiU(le:qz rb eH)(hn:∀d,o.dst=some d->jU rb d=true->jU eH d=true)(h:iI P cfg o pc ev rb nv=some out):iI P cfg o pc ev eH nv=some out:=by
 rcases SA h with⟨hf,rfl⟩|⟨hf,hx⟩|⟨hf,hx,h⟩
 .unfold iI;rw[aC hf]
 .unfold iI;rw[zq (by simp[hf]),hx]
 unfold iI;rw[zq (by simp[hf]),hx];exact aza le hn h
theorem ay9(h:cls cfg o≠.call):nJ P cfg o pc ev rb nv=nJ P cfg o pc ev rb qY:=by
 unfold nJ vg;unfold cls at h;generalize o.op=op at h;cases op<;>(try rfl)
 case slice t x lo hi mx=>cases mx<;>rfl
 case makeMap t r=>cases r<;>rfl
 case call c=>
  obtain⟨callee,args,ts⟩:=c;cases callee with
  |builtin b=>rfl
  |value f=>
   cases f with
   |func g=>
    simp only at h |-;by_cases hown:cfg.owns g=true
    .simp[hown]
    simp[hown]at h
   |_=>first|rfl|(exact absurd rfl h)
  |invoke r m=>exact absurd rfl h
theorem KN(h:cls cfg o≠.call):iI P cfg o pc ev rb nv=iI P cfg o pc ev rb qY:=by
 unfold iI;rw[ay9 h]
theorem aAn(h:cls cfg o=.P):nJ P cfg o pc ev rb nv=nJ P cfg o pc ev eH nv:=by
 unfold nJ vg;unfold cls at h;generalize o.op=op at h;cases op<;>(try rfl)<;>(try simp at h)
 case buildSlice t n ps=>split at h<;>simp at h
 case convert t u x=>split at h<;>(try split at h)<;>simp at h
 case call c=>
  obtain⟨callee,args,ts⟩:=c;cases callee with
  |builtin b=>
   have hh:∀(b:Builtin) (l:List Operand) (ts:Array TypeId),b≠.len->xR P ev rb pc b l ts=xR P ev eH pc b l ts:=by
    intro b l ts hb;unfold xR;split<;>first|rfl|exact absurd rfl hb
   refine hh b _ _ fun e=>?_;subst e;simp at h
  |value f=>
   cases f with
   |func g=>simp only at h;split at h<;>cases h
   |_=>simp at h
  |invoke r m=>simp at h
theorem akm(h:cls cfg o=.P):iI P cfg o pc ev rb nv=iI P cfg o pc ev eH nv:=by
 unfold iI;rw[aAn h]
theorem aAo(h:cls cfg o=.A)(hn:∀d,o.dst=some d->jU rb d=jU eH d):nJ P cfg o pc ev rb nv=nJ P cfg o pc ev eH nv:=by
 unfold nJ vg;unfold cls at h;generalize o.op=op at h;cases op<;>(try rfl)<;>(try simp at h)
 case buildSlice t n ps=>split at h<;>simp at h
 case convert t u x=>split at h<;>(try split at h)<;>simp at h
 case alloc t=>
  simp only[Fp];split
  next s d hs hd=>rw[hn d hd]
  rfl
 case makeSlice t l c=>
  simp only[FD];split
  next hd=>rw[hn _ hd]
  rfl
 case makeMap t r=>
  cases r with
  |some _=>rfl
  |none=>
   simp only;split
   next hd=>rw[hn _ hd]
   rfl
 case call c=>
  obtain⟨callee,args,ts⟩:=c;cases callee with
  |builtin b=>cases b<;>simp at h
  |value f=>
   cases f with
   |func g=>simp only at h;split at h<;>cases h
   |_=>simp at h
  |invoke r m=>simp at h
theorem aBo(h:cls cfg o=.A)(hn:∀d,o.dst=some d->jU rb d=jU eH d):iI P cfg o pc ev rb nv=iI P cfg o pc ev eH nv:=by
 unfold iI;rw[aAo h hn]
end
section
variable{P:Program}{cfg:fF}{rb eH:Rb}{ev ev':Ev}{pc:bq}{nv qY:Nat}{o:Oper}{out:Out}
def Made(rb:Rb)(r:Nat):Prop:=∃b,rb r=some b/\b.lb≠.none
def mG(rb:Rb)(f:List Nat):Prop:=∀r∈f,Made rb r
theorem mG.nil:mG rb []:=fun _ h=>by cases h
theorem mG.app{f g:List Nat}(h:mG rb f)(h':mG rb g):mG rb (f++g):=fun r hr=>(zx.1 hr).elim (h r) (h' r)
theorem aep{r:Nat}{y:Sh×E}(h:rowOf rb pc r=some y):Made rb r:=by
 unfold rowOf at h;split at h
 next s e p hr=>exact⟨_,hr,by simp⟩
 simp at h
theorem avd{r:Nat}{y:IntKind×Sh×E}(h:mapOf rb pc r=some y):Made rb r:=by
 unfold mapOf at h;split at h
 next hr=>exact⟨_,hr,by simp⟩
 simp at h
theorem afR{x:SX}{s:Sh}{e:E}{f:List Nat}(h:lg rb pc x=some (s,e,f)):mG rb f:=by
 unfold lg at h;split at h
 .simp at h;rw[h.2.2];exact mG.nil
 .split at h
  next hr=>simp at h;rw[h.2.2.symm];intro r hr';simp at hr';subst hr';exact aep hr
  simp at h
 .split at h
  next hr=>simp at h;rw[h.2.2.symm];intro r hr';simp at hr';subst hr';exact aep hr
  simp at h
 .simp at h;rw[h.2.2];exact mG.nil
 .split at h
  next hr=>simp at h;rw[h.2.2.symm];intro r hr';simp at hr';subst hr';exact avd hr
  .simp at h
 simp at h
theorem TU{x:Option SX}{s:Sh}{e:E}{f:List Nat}(h:x.bind (lg rb pc)=some (s,e,f)):mG rb f:=by
 cases x with
 |none=>simp at h
 |some x=>exact afR h
theorem CP{s:Sh}{l r:List SX}{e:E}{f:List Nat}(h:uK rb pc s l=some (e,f,r)):mG rb f:=by
 cases l with
 |nil=>simp[uK]at h
 |cons x l=>
  simp only[uK]at h;split at h
  .rename_i hd;split at h
   .simp at h;rw[h.2.1.symm];exact afR hd
   .simp at h
  simp at h
theorem RY:∀{s:Sh}{l r:List SX}{e:E}{f:List Nat},fT rb pc s l=some (e,f,r)->mG rb f
 | .je,_,_,_,_,h=>by simp[fT]at h;rw[h.2.1];exact mG.nil
 | .jc a b,l,_,_,_,h=>by
  simp only[fT]at h;split at h
  .split at h
   .rename_i h1;split at h
    next h2=>simp at h;rw[h.2.1.symm];exact(RY h1).app (RY h2)
    simp at h
   .simp at h
  simp at h
 | .int k,_,_,_,_,h=>by simp only[fT]at h;exact CP h
 | .bool,_,_,_,_,h=>by simp only[fT]at h;exact CP h
 | .str,_,_,_,_,h=>by simp only[fT]at h;exact CP h
 | .sl s,_,_,_,_,h=>by simp only[fT]at h;exact CP h
 | .dB _ s,_,_,_,_,h=>by simp only[fT]at h;exact CP h
 | .kP,_,_,_,_,h=>by simp only[fT]at h;exact CP h
 | .fH _,_,_,_,_,h=>by simp only[fT]at h;exact CP h
 | .mp _ s,_,_,_,_,h=>by simp only[fT]at h;exact CP h
theorem Ti:∀{l:List Operand}{ts:List TypeId}{m:List (Sh×E)} {f:List Nat},pK ev rb pc l ts=some (m,f)->mG rb f
 | [],_,_,_,h=>by simp[pK]at h;rw[h.2];exact mG.nil
 |x::l,ts,_,_,h=>by
  simp only[pK]at h;split at h
  next h1 h2=>simp at h;rw[h.2.symm];exact(TU h1).app (Ti h2)
  simp at h
theorem aeV{ft:Nat->TypeId}:∀{l:List (Nat×Operand)} {m m':List (Sh×E)} {f:List Nat},qj ev rb pc ft m l=some (m',f)->mG rb f
 | [],_,_,_,h=>by simp[qj]at h;rw[h.2];exact mG.nil
 |(i,x)::l,m,_,_,h=>by
  simp only[qj]at h;split at h
  .rename_i h1 h2;split at h
   .cases hb:qj ev rb pc ft (m.set i _) l with
    |none=>rw[hb]at h;simp at h
    |some z=>
     obtain⟨m2,g⟩:=z;rw[hb]at h;simp at h;rw[h.2.symm];exact(TU h1).app (aeV hb)
   .simp at h
  simp at h
theorem aeO{t:TypeId}{s:Sh}:∀{l:List (Nat×Operand)} {k:Nat}{e:E}{f:List Nat},qM ev rb pc t s k l=some (e,f)->mG rb f
 | [],_,_,_,h=>by simp[qM]at h;rw[h.2];exact mG.nil
 |(i,x)::l,k,_,_,h=>by
  simp only[qM]at h;split at h
  .simp at h
  split at h
  .rename_i h1 h2;split at h
   .simp at h;rw[h.2.symm];exact(TU h1).app (aeO h2)
   .simp at h
  simp at h
def gF(rb:Rb)(pc:bq)(dst:Option Tmp)(c:Cls)(out:Out):Prop:=
 (c≠.call->out.nv=0)/\
 ((∃f,out.jq=f.map fV.bM/\mG rb f/\(c=.P->f=[]))\/∃d lb,dst=some d/\out.jq=[fV.put d ⟨lb,false,pc⟩]/\jU rb d=true/\(c=.A\/c=.L))
theorem gF.plain{dst:Option Tmp}{c:Cls}{x:SX}{ji:List Ob}:gF rb pc dst c {x,ji}:=⟨fun _=>rfl,.inl ⟨[],rfl,mG.nil,fun _=>rfl⟩⟩
theorem gF.bM{dst:Option Tmp}{c:Cls}{x:SX}{ji:List Ob}{f:List Nat}(h:mG rb f)(hc:c≠.P):gF rb pc dst c {x,ji,jq:=f.map .bM}:=
 ⟨fun _=>rfl,.inl ⟨f,rfl,h,fun e=>absurd e hc⟩⟩
theorem gF.put{c:Cls}{x:SX}{ji:List Ob}{d:Nat}{lb:LB}{dst:Option Tmp}(hd:dst=some d)(h:jU rb d=true)(hc:c=.A\/c=.L):
  gF rb pc dst c {x,ji,jq:=[.put d ⟨lb,false,pc⟩]}:=⟨fun _=>rfl,.inr ⟨d,lb,hd,rfl,h,hc⟩⟩
theorem ayh{raw:Bool}{op:BinOp}{xt:TypeId}{s s':Sh}{x y:E}{dst:Option Tmp}{c:Cls}(h:BS P raw pc op xt s x s' y=some out):gF rb pc dst c out:=by
 unfold BS at h;repeat' split at h
 all_goals first|(simp at h;done)|(simp at h;subst h;exact gF.plain)|(injection h with h;subst h;exact gF.plain)
theorem afT{t:TypeId}{f:Nat}{pre:List (Sh×E)}{args:List Operand}{ts:List TypeId}{d:Option Tmp}(h:uL P cfg ev rb pc nv t f pre args ts=some out):gF rb pc d .call out:=by
 unfold uL at h;split at h
 .rename_i l bM aK h1 h2;split at h
  .simp only[dP]at h;subst h;refine⟨fun e=>absurd rfl e,.inl ?_⟩;by_cases hp:aK.all Sh.iQ=true
   .simp only[hp,eO];exact⟨[],rfl,mG.nil,fun _=>rfl⟩
   simp only[hp];exact⟨bM,rfl,Ti h1,fun e=>by cases e⟩
  .simp at h
 simp at h
theorem ay8(h:vg P cfg o pc ev rb nv=some out):gF rb pc o.dst (cls cfg o) out:=by
 unfold vg at h;split at h
 .rename_i hop;have hc:cls cfg o=.call:=by simp[cls,hop]
  rw[hc];repeat' split at h
  all_goals first|exact afT h|simp at h
 .simp at h
 .rename_i x args ts hx hop;have hc:cls cfg o=.call:=by
   cases x with
   |func g=>exact(hx g rfl).elim
   |_=>simp[cls,hop]
  rw[hc];repeat' split at h
  all_goals first|exact afT h|simp at h
 .repeat' split at h
  all_goals first|(simp at h;done)|(injection h with h;subst h;exact gF.plain)
 .rename_i hop;have hc:cls cfg o=.A:=by simp[cls,hop]
  rw[hc];split at h
  .rename_i d _ hd;split at h
   .split at h
    next hok=>simp only[bB]at hok;injection h with h;subst h;exact gF.put hd hok.1 (.inl rfl)
    simp at h
   .simp at h
  simp at h
 .rename_i hop;have hc:cls cfg o=.L:=by simp[cls,hop]
  rw[hc];split at h
  .rename_i d _ _ hd;split at h
   next hok=>injection h with h;subst h;exact gF.put hd hok (.inr rfl)
   simp at h
  .simp at h
 simp at h
theorem axx(h:nJ P cfg o pc ev rb nv=some out):gF rb pc o.dst (cls cfg o) out:=by
 unfold nJ at h;split at h
 case h_1=>split at h<;>simp at h;subst h;exact gF.plain
 case h_2=>split at h<;>simp at h;subst h;exact gF.plain
 case h_3=>
  unfold Le at h;repeat' split at h
  all_goals first|(simp at h;done)|(simp at h;subst h;exact gF.plain)
 case h_4=>
  split at h
  .exact ayh h
  simp at h
 case h_5=>
  unfold Mh at h;split at h<;>first|(simp at h;done)|(simp at h;subst h;exact gF.plain)
 case h_6=>
  unfold Ip at h;repeat' split at h
  all_goals first|(simp at h;done)|(simp at h;subst h;exact gF.plain)
 case h_7=>
  repeat' split at h
  all_goals first|(simp at h;done)|(simp at h;subst h;exact gF.plain)
 case h_8=>
  unfold KU at h;repeat' split at h
  all_goals first|(simp at h;done)|(simp at h;subst h;exact gF.plain)
 case h_9=>
  rename_i hop;have hc:cls cfg o≠.P:=by simp[cls,hop]
  unfold ET at h;split at h
  .split at h
   .split at h
    .split at h
     next hb=>simp at h;subst h;exact gF.bM (aeV hb) hc
     .simp at h
    simp at h
   .simp at h
  simp at h
 case h_10=>
  rename_i hop;split at h
  .rename_i hl;have hc:cls cfg o=.L:=by simp[cls,hop,hl]
   unfold EJ at h;split at h
   .rename_i et d _ hd;split at h
    .simp at h
    .split at h
     .rename_i hok;split at h
      .simp at h;subst h;simp only[bB]at hok;exact gF.put hd hok.1.1.1.1.1 (.inr hc)
      simp at h
     .simp at h
   simp at h
  .rename_i hl;have hc:cls cfg o≠.P:=by simp[cls,hop,hl]
   unfold EG at h;split at h
   .simp at h
   split at h
   .simp at h
   split at h
   .split at h
    next hb=>simp at h;subst h;exact gF.bM (aeO hb) hc
    .simp at h
   simp at h
 case h_11=>
  rename_i hop;have hc:cls cfg o=.A:=by simp[cls,hop]
  unfold Fp at h;split at h
  .rename_i s d _ hd;split at h
   .split at h
    next hok=>simp at h;subst h;simp only[bB]at hok;exact gF.put hd hok.1.1 (.inl hc)
    simp at h
   .simp at h
  simp at h
 case h_12=>
  rename_i hop;have hc:cls cfg o=.L:=by simp[cls,hop]
  unfold IZ at h;split at h
  .rename_i s e d _ hd;split at h
   next hok=>simp at h;subst h;simp only[bB]at hok;exact gF.put hd hok.1 (.inr hc)
   simp at h
  .rename_i r n d _ hd;split at h
   .split at h
    next hok=>simp at h;subst h;simp only[bB]at hok;exact gF.put hd hok.1 (.inr hc)
    simp at h
   .simp at h
  simp at h
 case h_13=>
  rename_i hop;have hc:cls cfg o≠.P:=by simp[cls,hop]
  unfold BF at h;split at h
  .split at h<;>simp at h;subst h;exact gF.plain
  .split at h
   .split at h
    .repeat' split at h
     all_goals first|(simp at h;done)|(simp at h;subst h;exact gF.plain)
    .split at h
     .split at h
      .split at h
       next hu=>simp at h;subst h;exact gF.bM (RY hu) hc
       .simp at h
      split at h<;>simp at h;subst h;exact gF.plain
     .simp at h
    simp at h
   .simp at h
  simp at h
 case h_14=>
  unfold IG at h;repeat' split at h
  all_goals first|(simp at h;done)|(simp at h;subst h;exact gF.plain)
 case h_15=>
  unfold H6 at h;repeat' split at h
  all_goals first|(simp at h;done)|(simp at h;subst h;exact gF.plain)
 case h_16=>
  unfold Bw Bo BX at h;repeat' split at h
  all_goals first|(simp at h;done)|(simp at h;subst h;exact gF.plain)
 case h_17=>
  unfold KO at h;repeat' split at h
  all_goals first|(simp at h;done)|(simp at h;subst h;exact gF.plain)
 case h_18=>
  unfold EZ at h;repeat' split at h
  all_goals first|(simp at h;done)|(simp at h;subst h;exact gF.plain)
 case h_19=>
  rename_i hop;have hc:cls cfg o=.A:=by simp[cls,hop]
  unfold FD at h;split at h
  .rename_i et kl l kc c d _ _ _ hd;split at h
   .simp at h
   .split at h
    .split at h
     next hok=>simp at h;subst h;simp only[bB]at hok;exact gF.put hd hok.1.1.1 (.inl hc)
     simp at h
    .simp at h
  simp at h
 case h_20=>
  unfold xR II Eb at h;repeat' split at h
  all_goals first|(simp at h;done)|(simp at h;subst h;exact gF.plain)
 case h_21=>
  rename_i hop;split at h
  .simp at h
  rename_i hown;have hc:cls cfg o=.call:=by simp[cls,hop,hown]
  split at h
  .unfold BI at h;split at h
   .simp only[dP]at h;subst h;exact⟨fun e=>absurd hc e,.inl ⟨[],rfl,mG.nil,fun _=>rfl⟩⟩
   .simp at h
  unfold BH at h;split at h
  .rename_i l bM aK h1 h2;split at h
   .simp only[dP]at h;subst h;refine⟨fun e=>absurd hc e,.inl ?_⟩;by_cases hp:aK.all Sh.iQ=true
    .simp only[hp,eO];exact⟨[],rfl,mG.nil,fun _=>rfl⟩
    simp only[hp];exact⟨bM,rfl,Ti h1,fun e=>by rw[hc]at e;cases e⟩
   .simp at h
  simp at h
 case h_22=>exact ay8 h
theorem EL(h:iI P cfg o pc ev rb nv=some out):gF rb pc o.dst (cls cfg o) out:=by
 rcases SA h with⟨_,rfl⟩|⟨_,h⟩|⟨_,_,h⟩
 .exact gF.plain
 .obtain ⟨h1,h2,_⟩:=agr h;exact⟨fun _=>h2,.inl ⟨[],h1,mG.nil,fun _=>rfl⟩⟩
 exact axx h
theorem NU(bs:List aL):∀f:List Nat,bT (bP (f.map .bM) bs)=bT bs:=by
 intro f;induction f generalizing bs with
 |nil=>rfl
 |cons r f ih=>
  change bT (bP (f.map .bM) (bs.modify r fun b=> {b with iK:=true}))=_
  rw[ih];funext q
  unfold bT;rw[uZ];cases bs[q]? with
  |none=>simp
  |some b=>by_cases hr:r=q<;>simp[hr]
theorem atK(bs:List aL)(r q:Nat):(bs.modify r fun b=> {b with iK:=true}).modify q (fun b=> {b with iK:=true})=(bs.modify q fun b=> {b with iK:=true}).modify r (fun b=> {b with iK:=true}):=by
 apply Ja;intro i;simp only[uZ];cases bs[i]? with
 |none=>simp
 |some b=>by_cases h1:r=i<;>by_cases h2:q=i<;>simp[h1,h2]
theorem ahL(q:Nat):∀(f:List Nat) (bs:List aL),bP (f.map .bM) (bs.modify q fun b=> {b with iK:=true})=(bP (f.map .bM) bs).modify q fun b=> {b with iK:=true}
 | [],_=>rfl
 |r::f,bs=>by
  change bP (f.map .bM) ((bs.modify q _).modify r _)=(bP (f.map .bM) (bs.modify r _)).modify q _
  rw[atK,ahL q f]
theorem ahM:∀(f g:List Nat) (bs:List aL),bP (f.map .bM) (bP (g.map .bM) bs)=bP (g.map .bM) (bP (f.map .bM) bs)
 | [],_,_=>rfl
 |r::f,g,bs=>by
  change bP (f.map .bM) ((bP (g.map .bM) bs).modify r _)=bP (g.map .bM) (bP (f.map .bM) (bs.modify r _))
  rw[<-ahL r g,ahM f g]
theorem UD{d:Nat}(b:aL):∀(f:List Nat) (bs:List aL),d∉f->bP (f.map .bM) (bs.set d b)=(bP (f.map .bM) bs).set d b
 | [],_,_=>rfl
 |r::f,bs,h=>by
  simp only[iR,not_or]at h;change bP (f.map .bM) ((bs.set d b).modify r _)=(bP (f.map .bM) (bs.modify r _)).set d b
  rw[<-UD b f _ h.2];congr 1
  apply Ja;intro i;simp only[uZ,Jc,List.length_modify];by_cases h1:d=i
  .subst h1;by_cases h2:d<bs.length<;>simp[h2,Ne.symm h.1]
  simp[h1]
theorem TL{r:Nat}(h:Made rb r)(hn:jU rb r=true):False:=by
 obtain⟨b,h1,h2⟩:=h;unfold jU at hn;split at hn
 next hr=>rw[h1]at hr;injection hr with hr;subst hr;exact h2 rfl
 simp at hn
theorem awO{bs:List aL}{pc pc':bq}{dst dst':Option Tmp}{c c':Cls}{out out':Out}(hd:∀d,dst=some d->dst'≠some d)
  (h:gF (bT bs) pc dst c out) (h':gF (bT bs) pc' dst' c' out'):bP out.jq (bP out'.jq bs)=bP out'.jq (bP out.jq bs):=by
 obtain⟨-,h⟩:=h;obtain⟨-,h'⟩:=h';rcases h with⟨f,e,hf,-⟩|⟨d,lb,e0,e,hn,-⟩<;>rcases h' with⟨f',e',hf',-⟩|⟨d',lb',Qu,e',hn',-⟩<;>rw[e,e']
 .exact ahM _ _ _
 .exact UD _ f bs (fun hm=>TL (hf _ hm) hn')
 .exact (UD _ f' bs (fun hm=>TL (hf' _ hm) hn)).symm
 change (bs.set d' _).set d _=(bs.set d _).set d' _
 exact List.set_comm _ _ (fun e1=>hd d e0 (by rw[Qu,e1]))
theorem aAG{bs:List aL}{dst:Option Tmp}{c:Cls}{out:Out}(h:gF (bT bs) pc dst c out):qz (bT bs) (bT (bP out.jq bs)):=by
 obtain⟨-,h⟩:=h;rcases h with⟨f,e,hf,-⟩|⟨d,lb,e0,e,hn,-⟩<;>rw[e]
 .rw[NU];exact fun r b hb _=>hb
 intro r b hb hl;change bT (bs.set d _) r=_
 have hne:d≠r:=fun e1=>by subst e1;exact TL ⟨b,hb,hl⟩ hn
 unfold bT at hb |-;rw[fZ hne];exact hb
theorem aij{bs:List aL}{dst:Option Tmp}{c:Cls}{out:Out}{q:Nat}(h:gF (bT bs) pc dst c out)(hq:dst≠some q):jU (bT (bP out.jq bs)) q=jU (bT bs) q:=by
 obtain⟨-,h⟩:=h;rcases h with⟨f,e,hf,-⟩|⟨d,lb,e0,e,hn,-⟩<;>rw[e]
 .rw[NU]
 change jU (bT (bs.set d _)) q=_
 have hne:d≠q:=fun e1=>by subst e1;exact hq e0
 unfold jU bT;rw[fZ hne]
def core(P:Program)(cfg:fF)(o:Oper)(pc:bq)(ev:Ev)(bs:List aL)(nv:Nat):Option (SX×List aL×Nat×List Ob):=
 if cls cfg o=.W then
  if pc=[]then match yR P cfg o ev bs with
   |some (x,bs,ji)=>if iA ji=0 then some (x,bs,0,ji)else none
   |none=>none
  else none
 else if cls cfg o=.G then
  if pc=[]then match yS P cfg o ev bs nv with
   |some (x,bs,ji,n)=>if iA ji=n then some (x,bs,n,ji)else none
   |none=>none
  else none
 else match iI P cfg o pc ev (bT bs) nv with
  |some out=>if iA out.ji=out.nv then some (out.x,bP out.jq bs,out.nv,out.ji)else none
  |none=>none
theorem JU{ops:List Oper}{S S':SS}{ji:List Ob}:uM P cfg ops o S=some (S',ji)↔
  ∃pc x bs n,wF S ops o=some pc/\core P cfg o pc (S.ev P) S.jd S.nv=some (x,bs,n,ji)/\S'= {tmps:=eT S.tmps o.dst ⟨pc,x⟩,jd:=bs,nv:=S.nv+n}:=by
 unfold uM core;cases hg:wF S ops o with
 |none=>simp
 |some pc=>
  simp only[dP];by_cases hw:cls cfg o=.W
  .simp only[hw,eO];by_cases hp:pc=[]
   .subst hp;simp only[eO];cases ho:yR P cfg o (S.ev P) S.jd with
    |none=>simp
    |some y=>
     obtain⟨x,bs,ob⟩:=y;simp only;by_cases hv:iA ob=0
     .simp only[hv,eO,dP,iG];constructor
      .rintro ⟨rfl,rfl⟩;exact⟨[],x,bs,0,rfl,by simp,rfl⟩
      .rintro ⟨_,_,_,_,rfl,h,rfl⟩;simp at h;obtain⟨rfl,rfl,rfl,rfl⟩:=h;exact⟨rfl,rfl⟩
     simp[hv]
   .simp only[hp,pY];simp;intro _ _ _ h;exact absurd h hp
  by_cases hw':cls cfg o=.G
  .simp only[hw',eO,zq (show ¬(Cls.G=Cls.W) by simp)];by_cases hp:pc=[]
   .subst hp;simp only[eO];cases ho:yS P cfg o (S.ev P) S.jd S.nv with
    |none=>simp
    |some y=>
     obtain⟨x,bs,ob,n⟩:=y;simp only;by_cases hv:iA ob=n
     .simp only[hv,eO,dP,iG];constructor
      .rintro ⟨rfl,rfl⟩;exact⟨[],x,bs,n,rfl,by simp,rfl⟩
      .rintro ⟨_,_,_,_,rfl,h,rfl⟩;simp at h;obtain⟨rfl,rfl,rfl,rfl⟩:=h;exact⟨rfl,rfl⟩
     simp[hv]
   .simp only[hp,pY];simp;intro _ _ _ h;exact absurd h hp
  simp only[hw,hw',pY];change (match iI P cfg o pc (S.ev P) (bT S.jd) S.nv with|some out=>_|none=>none)=_↔_
  cases ho:iI P cfg o pc (S.ev P) (bT S.jd) S.nv with
  |none=>
   simp;intro _ _ _ h;simp[ho]at h
  |some out=>
   simp only;by_cases hv:iA out.ji=out.nv
   .simp only[hv,eO,dP,iG];constructor
    .rintro ⟨rfl,rfl⟩;exact⟨pc,out.x,_,out.nv,rfl,by simp[ho,hv],rfl⟩
    .rintro ⟨_,_,_,_,rfl,h,rfl⟩;simp[ho,hv]at h;obtain⟨rfl,rfl,rfl,rfl⟩:=h;exact⟨rfl,rfl⟩
   simp[hv];intro _ _ _ h;simp[ho,hv]at h
theorem aeQ{bs:List aL}(h:mM o.op.operands.toList ev ev'):core P cfg o pc ev bs nv=core P cfg o pc ev' bs nv:=by
 unfold core;rw[awj h,awl h,afs h]
theorem C9{bs bs':List aL}{x:SX}{n:Nat}{ji:List Ob}(hw:cls cfg o≠.W)(hw':cls cfg o≠.G):core P cfg o pc ev bs nv=some (x,bs',n,ji)↔
  ∃out,iI P cfg o pc ev (bT bs) nv=some out/\iA out.ji=out.nv/\x=out.x/\bs'=bP out.jq bs/\n=out.nv/\ji=out.ji:=by
 unfold core;rw[zq hw,zq hw'];cases ho:iI P cfg o pc ev (bT bs) nv with
 |none=>simp
 |some out=>
  simp only;by_cases hv:iA out.ji=out.nv
  .simp only[hv,eO,dP,iG];constructor
   .rintro ⟨rfl,rfl,rfl,rfl⟩;exact⟨out,rfl,hv,rfl,rfl,rfl,rfl⟩
   .rintro ⟨_,rfl,_,rfl,rfl,rfl,rfl⟩;exact⟨rfl,rfl,rfl,rfl⟩
  rw[zq hv];constructor
  .intro h;cases h
  rintro ⟨_,h,h2,_⟩;injection h with h;subst h;exact absurd h2 hv
theorem awL{a x:Oper}{pc pc':bq}{bs Qx Gi:List aL}{x1 x2:SX}{n1 n2:Nat}{nu jX:List Ob}(hd:∀d,a.dst=some d->x.dst≠some d)
  (hc:(match cls cfg a,cls cfg x with
   | .P,_|_,.P=>true
   | .R,.R| .R,.call| .call,.R| .R,.A| .call,.A| .R,.L| .call,.L| .A,.A| .L,.A=>true
   |_,_=>false)=true)
  (h1:core P cfg a pc ev bs nv=some (x1,Qx,n1,nu)) (h2:core P cfg x pc' ev' Qx (nv+n1)=some (x2,Gi,n2,jX)):
  ∃L9,core P cfg x pc' ev' bs nv=some (x2,L9,n2,jX)/\core P cfg a pc ev L9 (nv+n2)=some (x1,Gi,n1,nu)/\(n1=0\/n2=0):=by
 by_cases hPa:cls cfg a=.P
 .have hw:cls cfg a≠.W:=by rw[hPa];simp
  have hw':cls cfg a≠.G:=by rw[hPa];simp
  obtain⟨out,ho,hv,rfl,rfl,rfl,rfl⟩:=(C9 hw hw').1 h1;obtain⟨hn,hc'⟩:=EL ho;have hn0:=hn (by rw[hPa];simp);have he:out.jq=[]:=by
   rcases hc' with⟨f,e,_,hf⟩|⟨d,lb,_,_,_,hh⟩
   .rw[e,hf hPa];rfl
   .rw[hPa]at hh;simp at hh
  rw[hn0,he]at h2;refine⟨Gi,h2,(C9 hw hw').2 ⟨out,?_,hv,rfl,?_,rfl,rfl⟩,.inl hn0⟩
  .rw[akm hPa (eH:=bT bs),KN (by rw[hPa];simp) (qY:=nv)];exact ho
  .rw[he];rfl
 by_cases hPx:cls cfg x=.P
 .have hw:cls cfg x≠.W:=by rw[hPx];simp
  have hw':cls cfg x≠.G:=by rw[hPx];simp
  obtain⟨out,ho,hv,rfl,rfl,rfl,rfl⟩:=(C9 hw hw').1 h2;obtain⟨hn,hc'⟩:=EL ho;have hn0:=hn (by rw[hPx];simp);have he:out.jq=[]:=by
   rcases hc' with⟨f,e,_,hf⟩|⟨d,lb,_,_,_,hh⟩
   .rw[e,hf hPx];rfl
   .rw[hPx]at hh;simp at hh
  refine⟨bs,(C9 hw hw').2 ⟨out,?_,hv,rfl,by rw[he];rfl,rfl,rfl⟩,?_,.inr hn0⟩
  .rw[akm hPx (eH:=bT Qx),KN (by rw[hPx];simp) (qY:=nv+n1)];exact ho
  .rw[hn0,he];exact h1
 have hwa:cls cfg a≠.W:=fun e=>by rw[e]at hc;revert hc;cases hx:cls cfg x<;>simp;exact hPx hx
 have hwx:cls cfg x≠.W:=fun e=>by rw[e]at hc;revert hc;cases hx:cls cfg a<;>simp;exact hPa hx
 have hga:cls cfg a≠.G:=fun e=>by rw[e]at hc;revert hc;cases hx:cls cfg x<;>simp;exact hPx hx
 have hgx:cls cfg x≠.G:=fun e=>by rw[e]at hc;revert hc;cases hx:cls cfg a<;>simp;exact hPa hx
 obtain⟨out,ho,hv,rfl,rfl,rfl,rfl⟩:=(C9 hwa hga).1 h1;obtain⟨out',ho',hv',rfl,rfl,rfl,rfl⟩:=(C9 hwx hgx).1 h2;have hca:=EL ho;have xH:out.nv=0\/out'.nv=0:=by
  by_cases h:cls cfg a=.call
  .refine .inr ((EL ho').1 fun e=>?_);rw[h,e]at hc;simp at hc
  .exact .inl (hca.1 h)
 have hnx:cls cfg x≠.call\/out.nv=0:=by
  by_cases h:cls cfg x=.call
  .refine .inr (hca.1 fun e=>?_);rw[h,e]at hc;simp at hc
  .exact .inl h
 have hna:cls cfg a≠.call\/out'.nv=0:=by
  by_cases h:cls cfg a=.call
  .refine .inr ((EL ho').1 fun e=>?_);rw[h,e]at hc;simp at hc
  .exact .inl h
 have hox:iI P cfg x pc' ev' (bT bs) nv=some out':=by
  have e1:iI P cfg x pc' ev' (bT (bP out.jq bs)) nv=some out':=by
   rcases hnx with h|h
   .rw[KN h (qY:=nv+out.nv)];exact ho'
   .rw[h]at ho';exact ho'
  rcases hca.2 with⟨f,e,hf,_⟩|⟨d,lb,e0,e,hn,hh⟩
  .rw[e,NU]at e1;exact e1
  .have hxA:cls cfg x=.A:=by
    rcases hh with hh|hh<;>rw[hh]at hc<;>revert hc<;>cases hx:cls cfg x<;>simp
    .exact hPx hx
    .exact hPx hx
   rw[aBo hxA (eH:=bT (bP out.jq bs)) fun d' hd'=>(aij hca (fun e2=>hd d' e2 hd')).symm];exact e1
 have hcx:=EL hox;refine⟨bP out'.jq bs,(C9 hwx hgx).2 ⟨out',hox,hv',rfl,rfl,rfl,rfl⟩,(C9 hwa hga).2 ⟨out,?_,hv,rfl,(awO hd hca hcx).symm,rfl,rfl⟩,xH⟩;have e1:=aiU (aAG hcx) (fun d hd' hn=>by rw[aij hcx (hd d hd')];exact hn) ho;rcases hna with h|h
 .rw[KN h (qY:=nv)];exact e1
 rw[h];exact e1
theorem Np{l:List TS}{d:Option Tmp}{t:TS}{i:Nat}(h:d≠some i):(eT l d t)[i]?=l[i]?:=by
 cases d with
 |none=>rfl
 |some d=>exact fZ (fun e=>h (by rw[e]))
theorem MF{S S':SS}{ops:List Oper}(h:∀t∈looks ops o,S'.tmps[t]?=S.tmps[t]?):wF S' ops o=wF S ops o:=by
 unfold wF;unfold looks at h;cases hg:o.guard with
 |none=>rfl
 |some g=>
  obtain⟨j,want⟩:=g;simp only;cases hd:(ops[j]?).bind (·.dst)with
  |none=>rfl
  |some d=>simp only[Option.bind_some];rw[h d (by simp[hg,hd])]
theorem N8{S S':SS}{ops:List Oper}(h:∀t∈looks ops o,S'.tmps[t]?=S.tmps[t]?):mM o.op.operands.toList (S'.ev P) (S.ev P):=by
 intro x hx pc t;unfold SS.ev;cases x with
 |tmp i=>
  simp only;rw[h i (List.mem_append_left _ (List.mem_filterMap.2 ⟨.tmp i,by simpa using hx,rfl⟩))]
 |_=>rfl
theorem afn{l:List TS}{d d':Option Tmp}{t t':TS}(h:∀x,d=some x->d'≠some x):eT (eT l d t) d' t'=eT (eT l d' t') d t:=by
 cases d with
 |none=>rfl
 |some d=>
  cases d' with
  |none=>rfl
  |some d'=>exact List.set_comm _ _ (fun e=>h d rfl (by rw[e]))
theorem avz{ops:List Oper}{a x:Oper}{S S1 S2:SS}{nu jX:List Ob}(hi:indep cfg ops a x=true)(h1:uM P cfg ops a S=some (S1,nu))(h2:uM P cfg ops x S1=some (S2,jX)):
  ∃yZ,uM P cfg ops x S=some (yZ,jX)/\uM P cfg ops a yZ=some (S2,nu)/\(iA nu=0\/iA jX=0):=by
 have hv1:=xS h1;have hv2:=xS h2;obtain⟨pc,x1,Qx,n1,hg,hcore,rfl⟩:=JU.1 h1;obtain⟨pc',x2,Gi,n2,hg',ajb,rfl⟩:=JU.1 h2;simp only[indep,bB]at hi;obtain⟨hi1,hi2,hi3⟩:=hi;have hlx:∀t∈looks ops x,a.dst≠some t:=by
  intro t ht e;rw[e]at hi1;simp at hi1;exact hi1.1 ht
 have hdd:∀d,a.dst=some d->x.dst≠some d:=by
  intro d e;rw[e]at hi1;simp at hi1;exact hi1.2
 have hla:∀t∈looks ops a,x.dst≠some t:=by
  intro t ht e;rw[e]at hi2;simp at hi2;exact hi2 ht
 have ax:∀t∈looks ops x,(eT S.tmps a.dst ⟨pc,x1⟩)[t]?=S.tmps[t]?:=fun t ht=>Np (hlx t ht);have aa:∀t∈looks ops a,(eT S.tmps x.dst ⟨pc',x2⟩)[t]?=S.tmps[t]?:=fun t ht=>Np (hla t ht);rw[MF (S:=S) ax]at hg';rw[aeQ (N8 (S:=S) ax)]at ajb;obtain⟨L9,e1,e2,e3⟩:=awL hdd hi3 hcore ajb;refine⟨{tmps:=eT S.tmps x.dst ⟨pc',x2⟩,jd:=L9,nv:=S.nv+n2},JU.2 ⟨pc',x2,L9,n2,hg',e1,rfl⟩,
  JU.2 ⟨pc,x1,Gi,n1,?_,?_,?_⟩,?_⟩
 .rw[MF (S:=S) aa];exact hg
 .rw[aeQ (N8 (S:=S) aa)];exact e2
 .rw[SS.mk.injEq];exact⟨afn hdd,rfl,by simp only;omega⟩
 simp only[iA]at*;rcases e3 with h|h
 .left;omega
 right;omega
theorem Sw{ops:List Oper}:∀{l:List Oper}{S S':SS}{ji:List Ob},oM P cfg ops l S=some (S',ji)->S'.nv=S.nv+iA ji
 | [],S,S',ji,h=>by simp[oM]at h;obtain⟨rfl,rfl⟩:=h;simp[iA]
 |o::l,S,S',ji,h=>by
  simp only[oM]at h;split at h
  .simp at h
  .rename_i S1 nu h1;split at h
   .simp at h
   next S2 jX h2=>simp at h;obtain⟨rfl,rfl⟩:=h;have e1:=xS h1;have e2:=Sw h2;simp only[iA,gW,List.sum_append]at*;omega
theorem MX{ρ:List C}:∀(l:List Ob) (m m':Nat),(l.map Ob.vars).sum=0->fG P ρ m l->fG P ρ m' l:=by
 intro l;induction l with
 |nil=>exact fun _ _ _ h=>h
 |cons o l ih=>
  intro m m' hs hh;simp only[jG,List.sum_cons]at hs;have h0:o.vars=0:=by omega
  refine⟨?_,?_⟩
  .have:=hh.1;cases o with
   |ak p e=>exact this
   |call p f args aK=>
    simp only[Ob.vars]at h0;have hr:aK=[]:=List.length_eq_zero_iff.1 h0;subst hr;exact fun hp=>⟨(this hp).1,.inl rfl⟩
  rw[h0];have:=hh.2;rw[h0]at this;exact ih _ _ (by omega) this
theorem adw{ρ:List C}{ops:List Oper}{x:Oper}{post:List Oper}:∀{pre:List Oper}{S S':SS}{ji:List Ob},(∀a∈pre,indep cfg ops a x=true)->
  oM P cfg ops (pre++x::post) S=some (S',ji)->fG P ρ S.nv ji->
  ∃S1 nu jX,uM P cfg ops x S=some (S1,nu)/\oM P cfg ops (pre++post) S1=some (S',jX)/\fG P ρ S.nv nu/\fG P ρ S1.nv jX
 | [],S,S',ji,_,h,ho=>by
  simp only[iw,oM]at h;split at h
  .simp at h
  .rename_i S1 nu h1;split at h
   .simp at h
   next S2 jX h2=>simp at h;obtain⟨rfl,rfl⟩:=h;rw[xO]at ho;exact⟨S1,nu,jX,h1,h2,ho.1,by rw[xS h1];exact ho.2⟩
 |a::pre,S,S',ji,hi,h,ho=>by
  simp only[kS,oM]at h;split at h
  .simp at h
  .rename_i Sa Wy ha;split at h
   .simp at h
   .rename_i S2 jX h2;simp at h;obtain⟨rfl,rfl⟩:=h;rw[xO]at ho;obtain⟨S3,WC,WB,h3,h4,ho3,WI⟩:=adw (fun a' ha'=>hi a' (by simp[ha'])) h2 (by rw[xS ha];exact ho.2);obtain⟨yZ,e1,e2,e3⟩:=avz (hi a (by simp)) ha h3;have n1:=xS ha;have n2:=xS h3;have n3:=xS e1;have n4:=xS e2;simp only[iA]at e3;refine⟨yZ,WC,Wy++WB,e1,?_,?_,?_⟩
    .simp only[kS,oM,e2,h4]
    .rcases e3 with e|e
     .rw[show S.nv=Sa.nv by omega];exact ho3
     .exact MX _ _ _ e ho3
    rw[xO];refine⟨?_,by rw[<-n4];exact WI⟩;rcases e3 with e|e
    .exact MX _ _ _ e ho.1
    rw[show yZ.nv=S.nv by omega];exact ho.1
end
section
variable{P:Program}{cfg:fF}{N0:Nat->Prop}{w0:Wb}{ρ:List C}{Q:Exit->Act->World->Prop}
def rem(listed:Array Bool):Nat->List Oper->List Oper
 |_,[]=> []
 |k,o::l=>if listed.getD k true then rem listed (k+1) l else o::rem listed (k+1) l
theorem J5{listed:Array Bool}:∀{l:List Oper}{k i:Nat}{x:Oper},l[i]?=some x->listed.getD (k+i) true=false->
  rem listed k l=rem listed k (l.take i)++x::rem listed (k+i+1) (l.drop (i+1))
 | [],_,_,_,h,_=>by simp at h
 |o::l,k,0,x,h,hl=>by
  simp at h hl;subst h;simp[rem,hl]
 |o::l,k,i+1,x,h,hl=>by
  have ih:=J5 (listed:=listed) (l:=l) (k:=k+1) (i:=i) (x:=x) (by simpa using h) (by rw[<-hl];congr 1;omega);simp only[Cb,List.drop_succ_cons,rem];rw[ih,show k+1+i+1=k+(i+1)+1 by omega];split<;>simp
theorem afm{listed listed':Array Bool}:∀{l:List Oper}{k:Nat},(∀j,k<=j->j<k+l.length->listed'.getD j true=listed.getD j true)->rem listed' k l=rem listed k l
 | [],_,_=>rfl
 |o::l,k,h=>by
  simp only[rem];rw[h k (aS _) (by simp),afm (l:=l) fun j h1 h2=>h j (by omega) (by simp;omega)]
theorem Um{listed:Array Bool}:∀{l:List Oper}{k i:Nat}{x:Oper},l[i]?=some x->listed.getD (k+i) true=false->k+i<listed.size->
  rem (listed.setIfInBounds (k+i) true) k l=rem listed k (l.take i)++rem listed (k+i+1) (l.drop (i+1))
 | [],_,_,_,h,_,_=>by simp at h
 |o::l,k,0,x,h,hl,hs=>by
  have e1:(listed.setIfInBounds k true).getD k true=true:=by
   simp at hs;simp[Array.getD,hs]
  simp only[qE,vY,rem,iw,e1,eO];simp only[List.drop_succ_cons,xu];exact afm fun j h1 _=>getD_set_ne true (by omega)
 |o::l,k,i+1,x,h,hl,hs=>by
  have ih:=Um (listed:=listed) (l:=l) (k:=k+1) (i:=i) (x:=x) (by simpa using h) (by rw[<-hl];congr 1;omega) (by omega);simp only[Cb,List.drop_succ_cons,rem];rw[show k+1+i=k+(i+1) by omega]at ih;rw[ih,getD_set_ne true (by omega)];split<;>simp
theorem Kv{listed:Array Bool}:∀{l:List Oper}{k:Nat}{a:Oper},a∈rem listed k l->∃j,l[j]?=some a/\listed.getD (k+j) true=false
 | [],_,_,h=>by simp[rem]at h
 |o::l,k,a,h=>by
  simp only[rem]at h;split at h
  .obtain ⟨j,h1,h2⟩:=Kv h;exact⟨j+1,by simpa using h1,by rw[<-h2];congr 1;omega⟩
  .rename_i hk;rcases iR.1 h with h|h
   .subst h;exact⟨0,rfl,by simpa using hk⟩
   obtain ⟨j,h1,h2⟩:=Kv h;exact⟨j+1,by simpa using h1,by rw[<-h2];congr 1;omega⟩
theorem ahs{listed:Array Bool}{l:List Oper}{k:Nat}(h:∀j,j<l.length->listed.getD (k+j) true=true):rem listed k l=[]:=by
 cases hr:rem listed k l with
 |nil=>rfl
 |cons a r=>
  obtain⟨j,h1,h2⟩:=Kv (listed:=listed) (l:=l) (k:=k) (a:=a) (by rw[hr];simp);rw[h j (zy.1 h1).1]at h2;cases h2
theorem afF(acc:List Nat):∀(l:List Edge) (m j:Nat),(l.foldl (fun m e=>if Region.binds .any e then m|||2^e.on|||acc.getD e.on 0 else m) m).testBit j=true->
  m.testBit j=true\/∃e∈l,Region.binds .any e=true/\(j=e.on\/(acc.getD e.on 0).testBit j=true)
 | [],m,j,h=> .inl h
 |e::l,m,j,h=>by
  simp only[Ak]at h;rcases afF acc l _ j h with h|⟨e',h1,h2,h3⟩
  .split at h
   .rename_i hb;simp only[Nat.testBit_or,Bool.or_eq_true,Nat.testBit_two_pow,dQ]at h;rcases h with(h|h)|h
    .exact .inl h
    .exact .inr ⟨e,by simp,hb,.inl h.symm⟩
    exact .inr ⟨e,by simp,hb,.inr h⟩
   .exact .inl h
  exact .inr ⟨e',by simp[h1],h2,h3⟩
theorem TW:∀(l:List Oper) (acc:List Nat) (i:Nat),i<acc.length->(uW l acc).getD i 0=acc.getD i 0
 | [],_,_,_=>rfl
 |o::l,acc,i,h=>by
  simp only[uW];rw[TW l _ i (by simp;omega)];simp[List.getD,xw h]
theorem Tj:∀(l:List Oper) (acc:List Nat) (k:Nat) (o:Oper) (j:Nat),l[k]?=some o->((uW l acc).getD (acc.length+k) 0).testBit j=true->
  ∃e∈o.after.toList,Region.binds .any e=true/\(j=e.on\/((uW l acc).getD e.on 0).testBit j=true)
 | [],_,_,_,_,h,_=>by simp at h
 |o::l,acc,0,x,j,h,hb=>by
  simp at h;subst h;simp only[uW,qE]at hb |-;rw[TW l _ acc.length (by simp)]at hb;simp only[List.getD,F6 (aS _),Nat.sub_self,List.getElem?_cons_zero,F8]at hb;rcases afF acc _ 0 j hb with h|⟨e,h1,h2,h3⟩
  .simp at h
  refine ⟨e,h1,h2,h3.imp id fun h=>?_⟩;have hlt:e.on<acc.length:=by
   rcases Nat.lt_or_ge e.on acc.length with h'|h'
   .exact h'
   .simp[List.getD,Jd h']at h
  rw[TW l _ e.on (by simp;omega)];simpa[List.getD,xw hlt]using h
 |o::l,acc,k+1,x,j,h,hb=>by
  simp only[uW]at hb |-;exact Tj l _ k x j (by simpa using h) (by simpa[su,Cm 1 k]using hb)
theorem GD{α:Type}{l:List α}{p:α×Nat->Bool}(h:l.zipIdx.all p=true){i:Nat}{x:α}(hx:l[i]?=some x):p (x,i)=true:=by
 rw[pR]at h;exact h (x,i) (by rw[List.mk_mem_zipIdx_iff_getElem?];exact hx)
theorem awX{ops:List Oper}(hok:CX P cfg ops=true){S':SS}(hq:∀a' w',(∃hv',aZ P N0 w0 ρ S' hv' a' w')->Q .normal a' w'):
  ∀(fuel:Nat) (listed:Array Bool) (S:SS) (hv:Nat->Value) (a:Act) (w:World) (ji:List Ob),aZ P N0 w0 ρ S hv a w->
   oM P cfg ops (rem listed 0 ops) S=some (S',ji)->fG P ρ S.nv ji->listed.size=ops.length->(rem listed 0 ops).length<=fuel->
   (∀i,listed.getD i false=true->∀j,((uW ops []).getD i 0).testBit j=true->listed.getD j false=true)->wpAny P .any ops.toArray Q fuel listed a w:=by
 simp only[CX,bB]at hok;obtain⟨-,hback,KQ⟩:=hok;have hgd:∀(listed:Array Bool) (i:Nat),listed.size=ops.length->i<ops.length->listed.getD i true=listed.getD i false:=by
  intro listed i h1 h2;have:i<listed.size:=by omega
  simp[Array.getD,this]
 have hnil:∀listed:Array Bool,listed.size=ops.length->Region.ready .any ops.toArray listed=[]->rem listed 0 ops=[]:=by
  intro listed hs hr;apply ahs;intro j hj;rw[kD];induction j using Nat.strongRecOn with
  |_ j ih=>
   cases hb:listed.getD j true with
   |true=>rfl
   |false=>
    exfalso;have hm:j∈Region.ready .any ops.toArray listed:=by
     rw[mem_ready];refine⟨hb,ops[j],by simp[hj],fun e he hbe=>?_⟩;have h1:=GD hback (nL hj);simp only[pR]at h1;have h2:=h1 e (by simpa using he);simp[hbe]at h2;rw[<-hgd listed e.on hs (by omega)];exact ih e.on h2 (by omega)
    rw[hr]at hm;cases hm
 intro fuel;induction fuel with
 |zero=>
  intro listed S hv a w ji hrel hrun ho hs hf hcl;have h0:rem listed 0 ops=[]:=List.length_eq_zero_iff.1 (by omega);refine⟨?_,?_⟩
  .cases hr:Region.ready .any ops.toArray listed with
   |nil=>rfl
   |cons i r=>
    have hm:i∈Region.ready .any ops.toArray listed:=by rw[hr];simp
    obtain⟨h1,o,h2,_⟩:=mem_ready.1 hm;rw[J5 (listed:=listed) (l:=ops) (k:=0) (i:=i) (x:=o) (by simpa using h2) (by simpa using h1)]at h0;simp at h0
  rw[h0]at hrun;simp[oM]at hrun;obtain⟨rfl,rfl⟩:=hrun;exact hq a w ⟨hv,hrel⟩
 |succ fuel ih=>
  intro listed S hv a w ji hrel hrun ho hs hf hcl;refine⟨fun hr=>?_,fun i hi=>?_⟩
  .rw[hnil listed hs hr]at hrun;simp[oM]at hrun;obtain⟨rfl,rfl⟩:=hrun;exact hq a w ⟨hv,hrel⟩
  obtain ⟨h1,x,h2,hall⟩:=mem_ready.1 hi;have hx:ops[i]?=some x:=by simpa using h2
  have hlt:i<ops.length:=(zy.1 hx).1;have L6:∀j,((uW ops []).getD i 0).testBit j=true->listed.getD j false=true:=by
   intro j hj;obtain⟨e,he,hb,h3⟩:=Tj ops [] i x j hx (by simpa using hj);have hl:=hall e (by simpa using he) hb;rcases h3 with rfl|h3
   .exact hl
   .exact hcl e.on hl j h3
  have hsp:=J5 (listed:=listed) (l:=ops) (k:=0) (i:=i) (x:=x) hx (by simpa using h1);have hst:=Um (listed:=listed) (l:=ops) (k:=0) (i:=i) (x:=x) hx (by simpa using h1) (by omega);rw[kD]at hst hsp;rw[hsp]at hrun;have Wi:∀b∈rem listed 0 (ops.take i),indep cfg ops b x=true:=by
   intro b hb;obtain⟨j,hj,hjl⟩:=Kv hb;rw[kD]at hjl;rw[sw]at hj;split at hj
   .rename_i hji;have h3:=GD (GD KQ hx) hj;simp only[Bool.or_eq_true,zl,pV]at h3;rcases h3 with(h3|h3)|h3
    .exact absurd hji h3
    .have:=L6 j h3;rw[<-hgd listed j hs (by omega),hjl]at this;cases this
    exact h3
   .cases hj
  obtain⟨S1,nu,jX,e1,e2,o1,o2⟩:=adw Wi hrun ho;have next:∀a' w',(∃hv',aZ P N0 w0 ρ S1 hv' a' w')->wpAny P .any ops.toArray Q fuel (listed.setIfInBounds i true) a' w':=by
   rintro a' w' ⟨hv',hr'⟩;refine ih _ S1 hv' a' w' jX hr' (by rw[hst];exact e2) o2 (by simpa using hs) ?_ ?_
   .rw[hst];rw[hsp]at hf;simp at hf |-;omega
   .intro q hq' j hj;by_cases hqi:i=q
    .subst hqi;exact getD_set_true (L6 j hj)
    .rw[getD_set_ne false hqi]at hq';exact getD_set_true (hcl q hq' j hj)
  unfold wpOp;simp only[h2];have hss:=RU (Q:=Q) hrel e1 o1;split
  next hw=>rw[aC hw]at hss;exact .inl (Oper.wp_mono next hss)
  next hw=>rw[zq hw]at hss;exact next _ _ hss
theorem aci{id:Nat}{ops:Array Oper}{draw:Bool}{S S':SS}{hv:Nat->Value}{a:Act}{w:World}{ji:List Ob}(hrel:aZ P N0 w0 ρ S hv a w)
  (hd:(draw&& !CX P cfg ops.toList)=false) (h:oM P cfg ops.toList ops.toList S=some (S',ji)) (ho:fG P ρ S.nv ji)
  (hq:∀a' w',(∃hv',aZ P N0 w0 ρ S' hv' a' w')->Q .normal a' w'):(Code.region id ops draw).wp P Q a w:=by
 cases draw with
 |false=>
  refine wp_region_list ?_;have:=Ro (Q:=Q) hrel h ho hq;simpa using this
 |true=>
  simp at hd;have hm:P.follows .mixedOrders=true:=by simp only[CX,bB]at hd;exact hd.1
  refine wp_region_any hm ?_;have key:∀(l:List Oper) (k n:Nat),k+l.length<=n->rem (Array.replicate n false) k l=l:=by
   intro l;induction l with
   |nil=>intros;rfl
   |cons o l ih=>
    intro k n hk;simp at hk;have:(Array.replicate n false).getD k true=false:=by simp[Array.getD,show k<n by omega]
    simp only[rem,this];rw[ih (k+1) n (by omega)];simp
  have hk:=key ops.toList 0 ops.size (by simp);have:=awX (Q:=Q) hd hq ops.size (Array.replicate ops.size false) S hv a {w with drawn:=w.drawn+1} ji (hrel.drew _) (by rw[hk];exact h) ho (by simp) (by rw[hk];simp)
   (fun i hi=>by exfalso;by_cases hlt:i<ops.size<;>simp[Array.getD,hlt]at hi)
  simpa using this
end
end Go.Vc
