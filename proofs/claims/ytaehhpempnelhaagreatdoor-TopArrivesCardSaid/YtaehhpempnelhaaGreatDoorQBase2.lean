/-
  My own general texts, one behind the other: a generator of conditions over the model, with its proof, and plain lemmas. No condition on the program.
-/
import Derived.Test.YtaehhpempnelhaaGreatDoorQBase1
import Derived.Lib.OthersKept
namespace Go.Vc
open Go.RowKit
def qC:List Sh->Sh
 | []=> .unit
 |s::l=> .pair s (qC l)
theorem NK:∀l,(qC l).isAgg=true
 | []=>rfl
 |_::_=>rfl
section
variable{P:Program}{w:World}{B:Nat->Prop}{N:Nat->Prop}{ρ:List C}{bs:List aG}{hv:Nat->Value}
def nR(w:World)(N:Nat->Prop)(ρ:List C):List (Sh×E)->List Value->Prop
 | [],vs=>vs=[]
 |(s,e)::l,vs=>∃u r,vs=u++r/\Rd w N s u (e.eval ρ)/\Exact s e u/\nR w N ρ l r
theorem nR.mono{w':World}{N':Nat->Prop}(hs:w.heap.size<=w'.heap.size)(hk:∀b,N b->b<w.heap.size->w'.heap[b]?=w.heap[b]?/\N' b):∀ {l:List (Sh×E)} {vs:List Value},nR w N ρ l vs->nR w' N' ρ l vs
 | [],_,h=>h
 |(_,_)::_,_,⟨u,r,h1,h2,h3,h4⟩=>⟨u,r,h1,h2.mono hs hk,h3,nR.mono hs hk h4⟩
theorem nR.whole:∀ {l:List (Sh×E)} {vs:List Value},nR w N ρ l vs->Rd w N (qC (l.map (·.1))) vs ((Cu (l.map (·.2))).eval ρ)/\Exact (qC (l.map (·.1))) (Cu (l.map (·.2))) vs
 | [],_,h=>⟨h,by simp[qC,Exact]⟩
 |(s,e)::l,_,⟨u,r,h1,h2,h3,h4⟩=>by
  obtain ⟨h5,h6⟩:=nR.whole h4;refine ⟨⟨NK _,u,r,h1,?_,?_⟩,⟨u,r,h1,h2.length,h3,h6⟩⟩
  .simpa [Cu,E.eval,C.hd] using h2
  .exact h5.tX (NK _) (by simp[Cu,E.eval,C.tl])
theorem TP:∀ {s:Sh} {e:E} {l:List (Sh×E)} {vs:List Value},fieldsOf s e=some l->Rd w N s vs (e.eval ρ)->Exact s e vs->nR w N ρ l vs/\s=qC (l.map (·.1))
 | .unit,e,l,vs,h,hr,_=>by
  simp[fieldsOf] at h;subst h;exact ⟨hr,rfl⟩
 | .pair a b,e,l,vs,h,hr,hx=>by
  simp[fieldsOf] at h;obtain ⟨l',h,rfl⟩:=h;obtain ⟨h0,va,vb,rfl,h1,h2⟩:=hr;obtain ⟨x1,x2⟩:=IB hx h1.length;obtain ⟨h3,h4⟩:=TP h (h2.tX h0 (H9 ρ e).symm) x2;exact ⟨⟨va,vb,rfl,by rw[Ia];exact h1,x1,h3⟩,by simp[qC,<-h4]⟩
 | .int _,_,_,_,h,_,_| .bool,_,_,_,h,_,_| .str,_,_,_,h,_,_| .sl _,_,_,_,h,_,_| .bP _ _,_,_,_,h,_,_| .iX,_,_,_,h,_,_| .eU _,_,_,_,h,_,_| .mp _ _,_,_,_,h,_,_=>by simp[fieldsOf] at h
def o7(l:List (Sh×E))(i:Nat):Nat:=((l.take i).map (·.1.size)).sum
theorem nR.set:∀ {l:List (Sh×E)} {vs:List Value} {i:Nat} {s:Sh} {e0 e:E} {u:List Value},nR w N ρ l vs->l[i]?=some (s,e0)->Rd w N s u (e.eval ρ)->Exact s e u->
  nR w N ρ (l.set i (s,e)) (vs.take (o7 l i)++(u++vs.drop (o7 l i+s.size)))/\o7 l i+s.size<=vs.length
 | [],_,_,_,_,_,_,_,hi,_,_=>by simp at hi
 |(s0,Ku)::l,vs,0,s,e0,e,u,⟨u0,r,h1,h2,h3,h4⟩,hi,hr,hx=>by
  simp at hi;obtain ⟨rfl,rfl⟩:=hi;subst h1;refine ⟨⟨u,r,by simp[o7,<-h2.length],hr,hx,h4⟩,by simp[o7,h2.length]⟩
 |(s0,Ku)::l,vs,i+1,s,e0,e,u,⟨u0,r,h1,h2,h3,h4⟩,hi,hr,hx=>by
  subst h1;obtain ⟨h5,h6⟩:=nR.set h4 (by simpa using hi) hr hx;have ho:o7 ((s0,Ku)::l) (i+1)=u0.length+o7 l i:=by simp[o7,h2.length]
  refine ⟨⟨u0,r.take (o7 l i)++(u++r.drop (o7 l i+s.size)),?_,h2,h3,h5⟩,by rw[ho];simp;omega⟩;rw[ho,oD,List.take_append,wu];simp;rw[jB (by omega),sV (by omega)];simp
theorem anZ(vs:List Value):∀(us:List Value) (off k:Nat),off+k+us.length<=vs.length->
  ((us.zipIdx k).foldl (fun (cs:Array Value) x=>cs.setIfInBounds (off+x.2) x.1) vs.toArray)=(vs.take (off+k)++(us++vs.drop (off+k+us.length))).toArray:=by
 intro us;induction us generalizing vs with
 |nil=>intro off k _;simp
 |cons u us ih=>
  intro off k h;simp only[List.zipIdx_cons,AP];have e:vs.toArray.setIfInBounds (off+k) u=(vs.set (off+k) u).toArray:=by simp
  rw[e,ih (vs.set (off+k) u) off (k+1) (by simp at h |-;omega)];have e2:=list_seg_step vs (off+k) u us (by simp at h;omega);congr 1
  simpa [oD] using e2
theorem Xb:∀ {fs:List Field} {s:Sh} {off:Nat} {l:List (Sh×E)} {i:Nat} {sh:Sh} {e:E},vv P fs s off=true->s=qC (l.map (·.1))->l[i]?=some (sh,e)->
  ∃f,fs[i]?=some f/\f.offset=off+o7 l i/\iB P f.type sh=true
 | [],s,off,l,i,sh,e,h,hs,hi=>by
  cases l with
  |nil=>simp at hi
  |cons x l=>rw[hs] at h;simp[vv,qC] at h
 |f::fs,s,off,l,i,sh,e,h,hs,hi=>by
  cases l with
  |nil=>simp at hi
  |cons x l=>
   rw[hs] at h;simp only[eZ,qC,vv,zQ,aP,bR] at h;obtain ⟨⟨h1,h2⟩,h3⟩:=h;cases i with
   |zero=>
    simp at hi;subst hi;exact ⟨f,rfl,by simp[o7,h1],h2⟩
   |succ i=>
    obtain ⟨f',g1,g2,g3⟩:=Xb h3 rfl (by simpa using hi);exact ⟨f',by simpa using g1,by rw[g2];simp[o7,oD],g3⟩
theorem run_places:∀ {fs:List Field} {s:Sh} {off:Nat},vv P fs s off=true->
  (fs.mapM fun f=>(do pure (f.offset,<-sizeOf f.type):Sem (Nat×Nat))).run P w= .ok (fs.map fun f=>(f.offset,P.cellsOf f.type)) w
 | [],_,_,_=>by simp
 |f::fs,s,off,h=>by
  cases s with
  |pair a b=>
   simp only[vv,aP] at h;have h1:=run_places h.2;obtain ⟨i,d,hi,hs,_,_⟩:=Bv (by have:=h.1;simp only[zQ,aP] at this;exact this.2);simp only[List.mapM_cons,Sem.run_bind];have h2:(sizeOf f.type).run P w= .ok (P.cellsOf f.type) w:=by simp[sizeOf,typeInfo,hi,Program.cellsOf]
   simp[h2];simp at h1 |-;first|exact h1|(rw[h1];rfl)|skip
  |_=>simp[vv] at h
theorem fill_step(places:Nat->Option (Nat×Nat))(vs:List Value)(i off size:Nat)(v:Value)(rest:List (Nat×Value))(hp:places i=some (off,size))(hs:v.cells.toList.length=size)(hle:off+size<=vs.length):
  Instr.fill places vs.toArray ((i,v)::rest)=Instr.fill places (vs.take off++(v.cells.toList++vs.drop (off+size))).toArray rest:=by
 have h1:v.cells.size=size:=by simpa using hs
 have h2:¬(vs.length<off+v.cells.size):=by omega
 have hf:=anZ vs v.cells.toList off 0 (by rw[hs];omega);rw[Instr.fill,hp];simp only[h1,ne_eq,not_true_eq_false,decide_false,Bool.false_or,List.size_toArray];rw[if_neg (by simpa [h1] using h2)];congr 1
 rw[<-Array.foldl_toList];simp only[Nat.add_zero,hs] at hf;simpa using hf
theorem Ip{s:Sh}{us:List Value}(hl:us.length=s.size)(h1:∀u∈us,∀cs,u≠ .agg cs):(s.mk us).cells.toList=us:=by
 by_cases ha:s.isAgg=true
 .simp[Sh.mk,ha,Value.cells]
 .have ha:s.isAgg=false:=by simpa using ha
  have hs:s.size=1:=by cases s<;>simp_all[Sh.isAgg,Sh.size]
  rw[hs] at hl;match us,hl with
  | [u],_=>
   simp only[Sh.mk,ha];have:=h1 u (by simp);cases u<;>simp_all[Value.cells]
theorem xM:∀ {s:Sh} {us:List Value} {c:C},Rd w N s us c->∀u∈us,u.oneCell'=true/\∀cs,u≠ .agg cs
 | .int _,_,_,h=>by simp only[Rd] at h;subst h;simp[Value.oneCell']
 | .bool,_,_,h=>by simp only[Rd] at h;subst h;simp[Value.oneCell']
 | .str,_,_,h=>by simp only[Rd] at h;subst h;simp[Value.oneCell']
 | .sl _,_,_,⟨a,cap,h,_⟩=>by subst h;simp[Value.oneCell']
 | .bP _ _,_,_,⟨_,h,_⟩=>by subst h;simp[Value.oneCell']
 | .iX,_,_,h| .eU _,_,_,h=>by simp only[Rd] at h;subst h;simp[Value.oneCell']
 | .mp _ _,_,_,⟨_,_,h,_⟩=>by subst h;simp[Value.oneCell']
 | .unit,_,_,h=>by simp only[Rd] at h;subst h;simp
 | .pair _ _,_,_,⟨_,va,vb,h1,h2,h3⟩=>by
  subst h1;intro u hu;rcases iZ.1 hu with hu|hu
  .exact xM h2 u hu
  .exact xM h3 u hu
theorem WV(hrows:nk w B N ρ bs hv){pc:aM}(hp:aS ρ pc){ev:Ev}{a:Act}(hev:∀o t x,ev pc o t=some x->bB w N ρ bs hv x (a.eval o)){ft:Nat->TypeId}{fs:List Field}{s:Sh}(hok:vv P fs s 0=true):
  ∀ {parts:List (Nat×Operand)} {l l':List (Sh×E)} {f:List Nat} {vs:List Value},lI ev (aY bs) pc ft l parts=some (l',f)->s=qC (l.map (·.1))->∀ {g:List Nat},nR w (NF N hv g) ρ l vs->
  (∀q∈f,jy bs ρ q)/\s=qC (l'.map (·.1))/\
  ∃vs',Instr.fill (fun i=>(fs.map fun f=>(f.offset,P.cellsOf f.type))[i]?) vs.toArray (parts.map fun x=>(x.1,a.eval x.2))=some vs'.toArray/\nR w (NF N hv (g++f)) ρ l' vs'
 | [],l,l',f,vs,h,hs,g,hr=>by
  simp[lI] at h;obtain ⟨rfl,rfl⟩:=h;exact ⟨by simp,hs,vs,by simp[Instr.fill],by simpa using hr⟩
 |(i,o)::parts,l,l',f,vs,h,hs,g,hr=>by
  simp only[lI] at h;split at h
  .rename_i sx e fx s' e' hd hl;split at h
   .rename_i hss;subst hss;cases hb:lI ev (aY bs) pc ft (l.set i (sx,e)) parts with
    |none=>simp[hb] at h
    |some y=>
     obtain ⟨l2,f2⟩:=y;simp[hb] at h;obtain ⟨rfl,rfl⟩:=h;obtain ⟨x,hx1,hx2⟩:=qx.1 hd;have hdat:=uZ hrows hp hx2 (hev o _ x hx1);obtain ⟨us,d1,d2,d3⟩:=hdat;have m1:∀b,NF N hv g b->b<w.heap.size->w.heap[b]?=w.heap[b]?/\NF N hv (g++fx) b:=fun b hb _=>⟨rfl,Ja hb⟩;have m2:∀b,NF N hv fx b->b<w.heap.size->w.heap[b]?=w.heap[b]?/\NF N hv (g++fx) b:=fun b hb _=>⟨rfl,Iz hb⟩;obtain ⟨k1,k2⟩:=(hr.mono (aI _) m1).set hl (d1.mono (aI _) m2) d3;obtain ⟨fl,q1,q2,q3⟩:=Xb hok hs hl;have hs2:s=qC ((l.set i (sx,e)).map (·.1)):=by
      rw[hs];congr 1
      apply CY;intro j;simp only[kM,CZ];by_cases hij:i=j
      .subst hij;rw[if_pos rfl,hl];rw[if_pos (dF.1 hl).1];rfl
      .rw[if_neg hij]
     obtain ⟨r1,r2,vs',r3,r4⟩:=WV hrows hp hev hok hb hs2 k1;have hcells:(a.eval o).cells.toList=us:=by rw[d2];exact Ip d1.length fun u hu=>(xM d1 u hu).2
     obtain ⟨ii,dd,hi1,hi2,_,_⟩:=Bv q3;refine ⟨?_,r2,vs',?_,by rw[<-dI];exact r4⟩
     .intro q hq;rcases iZ.1 hq with hq|hq
      .exact zn hp hx2 q hq
      .exact r1 q hq
     .simp only[eZ];rw[fill_step _ vs i (o7 l i) sx.size (a.eval o) _ ?_ (by rw[hcells,d1.length]) k2]
      .rw[hcells];exact r3
      .simp only[kM,q1,uN];rw[q2,iI];simp[Program.cellsOf,hi1,hi2]
   .simp at h
  .simp at h
theorem Dw{t:TypeId}{s:Sh}{e:E}(h:zeroE P t s=some e):∃i v,P.info? t=some i/\i.zero=some v/\Rd w N s v.cells.toList (e.eval ρ)/\Exact s e v.cells.toList:=by
 unfold zeroE at h;split at h
 .rename_i v hz;obtain ⟨i,hi,hz⟩:=qx.1 hz;split at h
  .rename_i e' hu;simp at h;subst h;obtain ⟨us,h1,h2,h3⟩:=KY (w:=w) (N:=N) (ρ:=ρ) hu;simp at h1;rw[<-h1] at h2 h3;exact ⟨i,v,hi,hz,by simpa using h2,by simpa using h3⟩
  .simp at h
 .simp at h
theorem Zw{pl PY:Nat->Option (Nat×Nat)}(hpl:∀i x,pl i=some x->PY i=some x):∀ {parts:List (Nat×Value)} {cs r:Array Value},Instr.fill pl cs parts=some r->Instr.fill PY cs parts=some r
 | [],_,_,h=>by simpa [Instr.fill] using h
 |(i,v)::rest,cs,r,h=>by
  rw[Instr.fill] at h |-;cases hi:pl i with
  |none=>simp[hi] at h
  |some x=>
   rw[hpl i x hi];rw[hi] at h;simp only at h |-;split at h
   .cases h
   .rename_i hc;rw[if_neg hc];exact Zw hpl h
theorem ajp(hrows:nk w B N ρ bs hv){pc:aM}(hp:aS ρ pc){ev:Ev}{a:Act}(hev:∀o t x,ev pc o t=some x->bB w N ρ bs hv x (a.eval o)){t:TypeId}{parts:List (Nat×Operand)}{out:Out}
  (h:zS P ev (aY bs) pc t parts=some out):
  ∃f,out.cmds=f.map .aV/\(∀q∈f,jy bs ρ q)/\out.nv=0/\out.obs=[]/\
   ∃u,(Instr.build t (parts.toArray.map fun x=>(x.1,a.eval x.2))).run P w= .ok u w/\bB w (NF N hv f) ρ bs hv out.x u:=by
 unfold zS at h;split at h
 .rename_i s fs hsh hu;split at h
  .rename_i hok;simp only[aP] at hok;split at h
   .rename_i l hl;split at h
    .rename_i l2 f hb;simp at h;subst h;obtain ⟨e,he,hfl⟩:=qx.1 hl;obtain ⟨i,v,hi,hz,hr,hx⟩:=Dw (w:=w) (N:=NF N hv []) (ρ:=ρ) he;obtain ⟨h1,h2⟩:=TP hfl hr hx;obtain ⟨r1,r2,vs',r3,r4⟩:=WV hrows hp hev hok.1 hb h2 h1;obtain ⟨g1,g2⟩:=r4.whole;rw[<-r2] at g1 g2;have hag:s.isAgg=true:=by rw[h2];exact NK _
     refine ⟨f,rfl,r1,rfl,rfl,.agg vs'.toArray,?_,vs',g1,by simp[Sh.mk,hag],g2⟩;unfold abo at hu;split at hu
     .rename_i fl hun;obtain ⟨fl⟩:=fl;simp only[bQ] at hu;subst hu;have hpl:=run_places (P:=P) (w:=w) hok.1;simp at hpl;simp only[Array.toArray_toList] at r3;simp[Instr.build,zeroValue,typeInfo,hi,hz,run_underlying hun];rw[hpl];simp only[kM] at r3;simp[r3]
     .rename_i n et hun;split at hu
      .rename_i hie;simp only[bQ] at hu;subst hu;obtain ⟨ie,hie⟩:=kK.1 hie;simp only[Array.toArray_toList] at r3;have r3:=Zw (PY:=fun i=>some (i*ie.size,ie.size)) (fun i x hx=>by
        simp only[qy,kM] at hx;obtain ⟨y,hy,rfl⟩:=uO.1 hx;obtain ⟨_,rfl⟩:=dF.1 hy;simp[Program.cellsOf,hie]) r3
       simp[Instr.build,zeroValue,sizeOf,typeInfo,hi,hz,hie,run_underlying hun,r3]
      .cases hu
     .cases hu
    .simp at h
   .simp at h
  .simp at h
 .simp at h
theorem ali(vs us xs:List Value)(k n m:Nat)(hl:us.length=n)(h:k+n+m<=vs.length):
  (vs.take k++(us++vs.drop (k+n))).take (k+n)++(xs++(vs.take k++(us++vs.drop (k+n))).drop (k+n+m))=vs.take k++((us++xs)++vs.drop (k+n+m)):=by
 have hX:(vs.take k++us).length=k+n:=by simp[hl];omega
 rw[<-dI (vs.take k) us,List.take_left' hX,wu,sV (by omega),hX];simp only[fJ,rC,dI];congr 4
 omega
theorem Lv(hrows:nk w B N ρ bs hv){pc:aM}(hp:aS ρ pc){ev:Ev}{a:Act}(hev:∀o t x,ev pc o t=some x->bB w N ρ bs hv x (a.eval o)){t:TypeId}{s:Sh}:
  ∀ {parts:List (Nat×Operand)} {k:Nat} {e:E} {f:List Nat},lZ ev (aY bs) pc t s k parts=some (e,f)->
  (∀q∈f,jy bs ρ q)/\(e.eval ρ).toList.length=parts.length/\
  ∃xs,bF w (NF N hv f) s xs (e.eval ρ).toList/\
   ∀(vs:List Value),k*s.size+parts.length*s.size<=vs.length->
    Instr.fill (fun i=>some (i*s.size,s.size)) vs.toArray (parts.map fun x=>(x.1,a.eval x.2))=some (vs.take (k*s.size)++(xs++vs.drop (k*s.size+parts.length*s.size))).toArray
 | [],k,e,f,h=>by
  simp[lZ] at h;obtain ⟨rfl,rfl⟩:=h;exact ⟨by simp,by simp[E.eval],[],by simp[E.eval,bF],fun vs _=>by simp[Instr.fill]⟩
 |(i,o)::parts,k,e,f,h=>by
  simp only[lZ] at h;split at h
  .simp at h
  .rename_i hik;simp only[ne_eq,Decidable.not_not] at hik;subst hik;split at h
   .rename_i s' ex fx es g hd hb;split at h
    .rename_i hss;subst hss;simp at h;obtain ⟨rfl,rfl⟩:=h;obtain ⟨x,hx1,hx2⟩:=qx.1 hd;obtain ⟨us,d1,d2,d3⟩:=uZ hrows hp hx2 (hev o _ x hx1);obtain ⟨r1,r2,xs,r3,r4⟩:=Lv hrows hp hev hb;have m1:∀b,NF N hv fx b->b<w.heap.size->w.heap[b]?=w.heap[b]?/\NF N hv (fx++g) b:=fun b hb _=>⟨rfl,Ja hb⟩;have m2:∀b,NF N hv g b->b<w.heap.size->w.heap[b]?=w.heap[b]?/\NF N hv (fx++g) b:=fun b hb _=>⟨rfl,Iz hb⟩;have hcells:(a.eval o).cells.toList=us:=by rw[d2];exact Ip d1.length fun u hu=>(xM d1 u hu).2
     refine ⟨?_,by simp[E.eval,r2],us++xs,?_,fun vs hvs=>?_⟩
     .intro q hq;rcases iZ.1 hq with hq|hq
      .exact zn hp hx2 q hq
      .exact r1 q hq
     .simp only[E.eval,C.kU];exact ⟨us,xs,rfl,d1.mono (aI _) m1,r3.mono (aI _) m2⟩
     .simp only[bn,Nat.add_mul,Nat.one_mul] at hvs;simp only[eZ];have hl:us.length=s.size:=d1.length;rw[fill_step _ vs i (i*s.size) s.size (a.eval o) _ rfl (by rw[hcells,hl]) (by omega),hcells];have hlen:(vs.take (i*s.size)++(us++vs.drop (i*s.size+s.size))).length=vs.length:=by simp[hl];omega
      rw[r4 _ (by rw[hlen,Nat.add_mul,Nat.one_mul];omega)];have e1:=ali vs us xs (i*s.size) s.size (parts.length*s.size) hl (by omega);simp only[bn,Nat.add_mul,Nat.one_mul] at e1 |-;rw[e1,show i*s.size+(parts.length*s.size+s.size)=i*s.size+s.size+parts.length*s.size by omega]
    .simp at h
   .simp at h
theorem Uk{t et:TypeId}{s:Sh}{len:Nat}{parts:List (Nat×Value)}(ht:P.underlying t=some (.slice et))(hf:iB P et s=true)(hz:((P.info? et).bind (·.zero)).isSome=true)(hlen:len*s.size<=2^24)
  {xs:List Value} (hl:xs.length=len*s.size) (aqI:∀vs:List Value,len*s.size<=vs.length->Instr.fill (fun i=>some (i*s.size,s.size)) vs.toArray parts=some (xs++vs.drop (len*s.size)).toArray):
  (Instr.buildSlice t len parts.toArray).run P w= .ok (.slice (some ⟨w.heap.size,0,none⟩) len len) (w.alloc (.cells xs.toArray et)):=by
 obtain ⟨z,hz⟩:=kK.1 hz;obtain ⟨i,hi,hz⟩:=qx.1 hz;have hsz:(sizeOf et).run P w= .ok s.size w:=run_sizeOf hf;have hn:¬(2^24<len*s.size):=by omega
 have hfl:=aqI ((List.range (len*s.size)).map fun j=>z.cells[j%z.cells.size]!) (by simp);have hd:((List.range (len*s.size)).map fun j=>z.cells[j%z.cells.size]!).drop (len*s.size)=[]:=sV (by simp);rw[hd,jl] at hfl;by_cases h0:len*s.size=0
 .have hx:xs=[]:=jH (by omega);subst hx;simp[h0] at hfl;simp[Instr.buildSlice,run_underlying ht,hsz,h0,newRow,hfl,Array.range_zero']
 .have hzv:(zeroValue et).run P w= .ok z w:=by simp[zeroValue,typeInfo,hi,hz]
  have harr:(Array.range (len*s.size)).map (fun j=>z.cells[j%z.cells.size]!)=((List.range (len*s.size)).map fun j=>z.cells[j%z.cells.size]!).toArray:=by
   apply Array.ext';simp[Array.toList_range]
  simp[Instr.buildSlice,run_underlying ht,hsz,hn,h0,hzv,newRow];rw[harr,hfl];simp
theorem aj1{ev:Ev}{rb:Rb}{pc:aM}{t:TypeId}{s:Sh}{k:Nat}{parts:List (Nat×Operand)}{e:E}{f:List Nat}(h:lZ ev rb pc t s k parts=some (e,f))(vs:List Value):Exact (.sl s) e vs:=by
 cases parts with
 |nil=>simp[lZ] at h;obtain ⟨rfl,_⟩:=h;simp[Exact]
 |cons x l=>
  simp only[lZ] at h;split at h
  .simp at h
  .split at h
   .split at h
    .simp at h;obtain ⟨rfl,_⟩:=h;simp[Exact]
    .simp at h
   .simp at h
theorem aiu(hrows:nk w B N ρ bs hv){pc:aM}(hp:aS ρ pc){ev:Ev}{a:Act}(hev:∀o t x,ev pc o t=some x->bB w N ρ bs hv x (a.eval o)){t:TypeId}{len:Nat}{parts:List (Nat×Operand)}{out:Out}
  (h:zF P ev (aY bs) pc t len parts=some out) (hN:∀b,w.heap.size<=b->N b):
  ∃f,out.cmds=f.map .aV/\(∀q∈f,jy bs ρ q)/\out.nv=0/\out.obs=[]/\
   ∃u w',(Instr.buildSlice t len (parts.toArray.map fun x=>(x.1,a.eval x.2))).run P w= .ok u w'/\Below w.heap.size w w'/\bB w' (NF N hv f) ρ bs hv out.x u:=by
 unfold zF at h;split at h
 .simp at h
 .rename_i et ht;split at h
  .simp at h
  .rename_i s hs;split at h
   .rename_i hok;simp only[aP,bR] at hok;obtain ⟨⟨⟨⟨hf,hs0⟩,hpl⟩,hlen⟩,hz⟩:=hok;have hs0:0<s.size:=by simp at hs0;omega
    split at h
    .rename_i e f hb;simp at h;subst h;obtain ⟨r1,r2,xs,r3,r4⟩:=Lv hrows hp hev hb;subst hpl;have hl:xs.length=parts.length*s.size:=by rw[r3.length,r2]
     have hrun:=Uk (P:=P) (w:=w) (parts:=parts.map fun x=>(x.1,a.eval x.2)) (u7 ht) hf hz hlen hl fun vs hvs=>by
      have:=r4 vs (by omega);simpa using this
     have hbel:Below w.heap.size w (w.alloc (.cells xs.toArray et)):=(Below.refl _ _).alloc (aI _) _;refine ⟨f,rfl,r1,rfl,rfl,_,_,by simpa using hrun,hbel,[.slice (some ⟨w.heap.size,0,none⟩) parts.length parts.length],⟨_,_,by rw[r2],by omega,?_,fun _=>⟨w.heap.size,0,rfl,.inl (hN _ (aI _)),by simp,?_⟩⟩,by simp[Sh.mk,Sh.isAgg],?_⟩
     .simp only[maxLen];have:parts.length<=parts.length*s.size:=Nat.le_mul_of_pos_right _ hs0;omega
     .refine qR.of_row (r3.mono (by simp) fun b hb hlt=>⟨hbel.block b hlt,hb⟩) fun j u hu=>?_;rw[World.cell?_alloc_at _ _ _ _ rfl];simpa using hu
     .exact aj1 hb _
    .simp at h
   .simp at h
theorem DF:∀ {s:Sh} {e:E} {vs:List Value},Rd w N s vs (e.eval ρ)->Exact s e vs->dY w N ρ bs hv (flat s e) vs
 | .int k,e,vs,h,hx=>by
  simp only[Rd] at h;subst h;exact ⟨_,[],rfl,by rw[gu],rfl⟩
 | .bool,e,vs,h,hx=>by
  simp only[Rd] at h;subst h;exact ⟨_,[],rfl,by rw[jr],rfl⟩
 | .str,e,vs,h,hx=>by
  simp only[Rd] at h;subst h;exact ⟨_,[],rfl,by rw[oJ],rfl⟩
 | .sl s,e,vs,h,hx=>by
  obtain ⟨a,cap,h1,h2⟩:=id h;subst h1;exact ⟨_,[],rfl,⟨_,h,by simp[Sh.mk,Sh.isAgg],hx⟩,rfl⟩
 | .bP _ _,e,vs,h,hx=>by
  obtain ⟨a,h1,h2⟩:=id h;subst h1;exact ⟨_,[],rfl,⟨_,h,by simp[Sh.mk,Sh.isAgg],hx⟩,rfl⟩
 | .iX,e,vs,h,hx=>by
  have h1:=h;simp only[Rd] at h1;subst h1;exact ⟨_,[],rfl,⟨_,h,by simp[Sh.mk,Sh.isAgg],hx⟩,rfl⟩
 | .eU _,e,vs,h,hx=>by
  have h1:=h;simp only[Rd] at h1;subst h1;exact ⟨_,[],rfl,⟨_,h,by simp[Sh.mk,Sh.isAgg],hx⟩,rfl⟩
 | .mp _ _,e,vs,h,hx=>by
  obtain ⟨a,l,h1,h2⟩:=id h;subst h1;exact ⟨_,[],rfl,⟨_,h,by simp[Sh.mk,Sh.isAgg],hx⟩,rfl⟩
 | .unit,e,vs,h,hx=>h
 | .pair a b,e,vs,h,hx=>by
  obtain ⟨h0,va,vb,rfl,h1,h2⟩:=h;obtain ⟨x1,x2⟩:=IB hx h1.length;have g1:=DF (e:=uH e) (by rw[Ia];exact h1) x1;have g2:=DF (e:=uG e) (h2.tX h0 (H9 ρ e).symm) x2;simp only[flat];exact XV g1 g2
where
 XV:∀ {l m:List SX} {us vs:List Value},dY w N ρ bs hv l us->dY w N ρ bs hv m vs->dY w N ρ bs hv (l++m) (us++vs)
  | [],_,_,_,h,h'=>by simp only[dY] at h;subst h;simpa using h'
  |_::_,_,_,_,⟨v,r,h1,h2,h3⟩,h'=>⟨v,r++_,by rw[h1];rfl,h2,XV h3 h'⟩
end
theorem NR{P:Program}{N0:Nat->Prop}{w0:Wb}{ρ:List C}{S:SS}{hv:Nat->Value}{a:Act}{w:World}(h:aJ P N0 w0 ρ S hv a w){d:Nat}(hd:gW S.rb d=true){s:Sh}{cs:List SX}{vs:List Value}{t:TypeId}(pc:aM)
  (hcs:dY w (NN N0 w0.own ρ S.blks hv) ρ S.blks hv cs vs):
  ∃hv',aJ P N0 w0 ρ {S with blks:=S.blks.set d ⟨.box cs,false,pc⟩} hv' a (w.alloc (.cells vs.toArray t))/\
   bB (w.alloc (.cells vs.toArray t)) (NN N0 w0.own ρ (S.blks.set d ⟨.box cs,false,pc⟩) hv') ρ (S.blks.set d ⟨.box cs,false,pc⟩) hv' (.ref d (.int 0) 0 s none) (.pointer (some ⟨w.heap.size,0,none⟩)):=by
 have hdn:=DY hd;have hbel:Below w.heap.size w (w.alloc (.cells vs.toArray t)):=(Below.refl _ _).alloc (aI _) _;have hdl:d<S.blks.length:=by obtain ⟨k,hk,_⟩:=hdn;exact (dF.1 hk).1
 refine ⟨upd hv d (.pointer (some ⟨w.heap.size,0,none⟩)),?_,⟨⟨.box cs,false,pc⟩,by simp[hdl],by simp⟩,fun es e p hin _=>?_,fun cs' p hin _=>⟨w.heap.size,by simp[upd,bH],rfl⟩⟩
 .refine (h.new hdn (.box cs) pc (.pointer (some ⟨w.heap.size,0,none⟩)) hbel (fun g hg=>by simp[bH] at hg;omega) fun _=>?_).1;refine ⟨w.heap.size,t,vs.toArray,by simp[upd],.inl h.below.size,heap_alloc_new w _,?_⟩;have hk:∀b,NN N0 w0.own ρ S.blks hv b->b<w.heap.size->(w.alloc (.cells vs.toArray t)).heap[b]?=w.heap[b]?/\NN N0 w0.own ρ (S.blks.set d ⟨.box cs,false,pc⟩) (upd hv d (.pointer (some ⟨w.heap.size,0,none⟩))) b:=by
   intro b hb hlt;refine ⟨hbel.block b hlt,hb.1,fun r k hr hl hf hp=>?_⟩;by_cases hrd:r=d
   .subst hrd;simp only[upd,if_true,bH,ne_eq,bQ];omega
   .rw[dN (fun e=>hrd e.symm)] at hr;simp only[upd,if_neg hrd];exact hb.2 r k hr hl hf hp
  simpa using hcs.le (by simp) hk (acv ρ hdn _ hv _)
 .simp[bV,hdl] at hin
theorem new_row{P:Program}{N0:Nat->Prop}{w0:Wb}{ρ:List C}{S:SS}{hv:Nat->Value}{a:Act}{w:World}(h:aJ P N0 w0 ρ S hv a w){d:Nat}(hd:gW S.rb d=true){s:Sh}{e:E}{xs rest:List Value}{t:TypeId}(pc:aM){cap:Nat}
  (hrow:bF w (NN N0 w0.own ρ S.blks hv) s xs (e.eval ρ).toList) (hsz:0<s.size) (hcap:(xs++rest).length=cap*s.size) (hcm:cap<=maxLen) (n:E) (hn:(n.eval ρ).toInt=((e.eval ρ).toList.length:Int)):
  ∃hv',aJ P N0 w0 ρ {S with blks:=S.blks.set d ⟨.row s e,false,pc⟩} hv' a (w.alloc (.cells (xs++rest).toArray t))/\
   bB (w.alloc (.cells (xs++rest).toArray t)) (NN N0 w0.own ρ (S.blks.set d ⟨.row s e,false,pc⟩) hv') ρ (S.blks.set d ⟨.row s e,false,pc⟩) hv' (.full d n) (.slice (some ⟨w.heap.size,0,none⟩) (e.eval ρ).toList.length cap):=by
 have hdn:=DY hd;have hbel:Below w.heap.size w (w.alloc (.cells (xs++rest).toArray t)):=(Below.refl _ _).alloc (aI _) _;have hdl:d<S.blks.length:=by obtain ⟨k,hk,_⟩:=hdn;exact (dF.1 hk).1
 have hl:=hrow.length;refine ⟨upd hv d (.slice (some ⟨w.heap.size,0,none⟩) (e.eval ρ).toList.length cap),?_,⟨⟨.row s e,false,pc⟩,by simp[hdl],by simp⟩,fun s' e' p hin _=>?_⟩
 .refine (h.new hdn (.row s e) pc (.slice (some ⟨w.heap.size,0,none⟩) (e.eval ρ).toList.length cap) hbel (fun g hg=>by simp[bH] at hg;omega) fun _=>?_).1;have hk:∀b,NN N0 w0.own ρ S.blks hv b->b<w.heap.size->(w.alloc (.cells (xs++rest).toArray t)).heap[b]?=w.heap[b]?/\NN N0 w0.own ρ (S.blks.set d ⟨.row s e,false,pc⟩) (upd hv d (.slice (some ⟨w.heap.size,0,none⟩) (e.eval ρ).toList.length cap)) b:=by
   intro b hb hlt;refine ⟨hbel.block b hlt,hb.1,fun r k hr hl hf hp=>?_⟩;by_cases hrd:r=d
   .subst hrd;simp only[upd,if_true,bH,ne_eq,bQ];omega
   .rw[dN (fun e=>hrd e.symm)] at hr;simp only[upd,if_neg hrd];exact hb.2 r k hr hl hf hp
  refine ⟨t,xs,⟨hl,.inr ⟨w.heap.size,cap,(xs++rest).toArray,by simp[upd],.inl h.below.size,heap_alloc_new w _,?_,hcm,by simpa using hcap,by rw[<-hl];simp⟩⟩,hrow.mono (by simp) hk,hsz⟩;have h1:(e.eval ρ).toList.length*s.size<=cap*s.size:=by rw[<-hl,<-hcap];simp
  exact Nat.le_of_mul_le_mul_right h1 hsz
 .simp[bV,hdl] at hin;obtain ⟨rfl,rfl,rfl⟩:=hin;exact ⟨by simp[upd],hn⟩
section
variable{P:Program}{w:World}{N:Nat->Prop}
def IY(d:Nat)(xs ys:Array Value)(f:Field):Sem (ForInStep (Option Bool×Unit)):=
 if f.name= "_" then pure (ForInStep.yield (none,()))
 else do
  let a <-part f.type xs f.offset
  let b <-part f.type ys f.offset
  let q <-Op.equalIn d f.type a b
  if q=false then pure (ForInStep.done (some false,())) else pure (ForInStep.yield (none,()))
theorem ada{R:TypeId->Sh->Bool}{d:Nat}(ih:∀t s us vs c c',R t s=true->Rd w N s us c->Rd w N s vs c'->(Op.equalIn d t (s.mk us) (s.mk vs)).run P w= .ok (jO s c c') w):
  ∀(fs:List Field) (s:Sh) (off:Nat) (pre pre' us vs:List Value) (c c':C),eqFields P R fs s off=true->pre.length=off->pre'.length=off->Rd w N s us c->Rd w N s vs c'->
  (forIn fs ((none,()):Option Bool×Unit) fun f _=>IY d (pre++us).toArray (pre'++vs).toArray f).run P w= .ok (if jO s c c' then (none,()) else (some false,())) w
 | [],s,off,pre,pre',us,vs,c,c',h,_,_,_,_=>by
  cases s<;>simp[eqFields] at h;simp[jO]
 |f::fs,s,off,pre,pre',us,vs,c,c',h,hp,hp',hu,hv=>by
  cases s with
  |pair a b=>
   simp only[eqFields,aP,zQ,bR] at h;obtain ⟨⟨⟨⟨h1,h2⟩,h3⟩,h4⟩,h5⟩:=h;obtain ⟨_,ua,ub,rfl,Kn,hub⟩:=hu;obtain ⟨_,va,vb,rfl,hva,hvb⟩:=hv;have hn:¬f.name= "_" :=by simpa using h3
   have p1:(part f.type (pre++(ua++ub)).toArray f.offset).run P w= .ok (a.mk ua) w:=M8 h2 (by rw[h1,<-hp];simp[<-Kn.length]) Kn.length;have p2:(part f.type (pre'++(va++vb)).toArray f.offset).run P w= .ok (a.mk va) w:=M8 h2 (by rw[h1,<-hp'];simp[<-hva.length]) hva.length;have p3:=ih f.type a ua va c.hd c'.hd h4 Kn hva;have hr:=ada ih fs b (off+a.size) (pre++ua) (pre'++va) ub vb c.tl c'.tl h5 (by simp[hp,Kn.length]) (by simp[hp',hva.length]) hub hvb;rw[List.forIn_cons,Sem.run_bind];have aqd:(IY d (pre++(ua++ub)).toArray (pre'++(va++vb)).toArray f).run P w= .ok (if jO a c.hd c'.hd then ForInStep.yield (none,()) else ForInStep.done (some false,())) w:=by
    unfold IY;rw[if_neg hn];simp only[Sem.run_bind,p1,p2,p3,Result.andThen_ok];cases jO a c.hd c'.hd<;>simp
   rw[aqd];simp only[Result.andThen_ok];cases hq:jO a c.hd c'.hd with
   |false=>simp[jO,hq]
   |true=>
    simp only[jO,hq,Bool.true_and,if_true];simp only[dI] at hr;exact hr
  |_=>simp[eqFields] at h
theorem aj0{R:TypeId->Sh->Bool}{fs:List Field}{s:Sh}{off:Nat}(h:eqFields P R fs s off=true):s.isAgg=true:=by
 cases fs<;>cases s<;>simp[eqFields,Sh.isAgg] at h |-
theorem ajn:∀(n:Nat) (t:TypeId) (s:Sh) (us vs:List Value) (c c':C),CU P n t s=true->Rd w N s us c->Rd w N s vs c'->∀d,n<=d->(Op.equalIn d t (s.mk us) (s.mk vs)).run P w= .ok (jO s c c') w:=by
 intro n;induction n with
 |zero=>intro t s us vs c c' h;simp[CU] at h
 |succ n ih=>
  intro t s us vs c c' h hu hv d hd;obtain ⟨d,rfl⟩:∃d',d=d'+1:=⟨d-1,by omega⟩;unfold CU at h;split at h
  .rename_i ht;simp only[Rd] at hu hv;subst hu hv;simp[Op.equalIn,run_underlying ht,Sh.mk,Sh.isAgg,jO]
  .rename_i k k' ht;simp only[bR] at h;subst h;simp only[Rd] at hu hv;subst hu hv;simp[Op.equalIn,run_underlying ht,Sh.mk,Sh.isAgg,jO]
  .rename_i ht;simp only[Rd] at hu hv;subst hu hv;have hb:∀x y:List UInt8,((⟨x.toArray⟩:ByteArray)==⟨y.toArray⟩)=(x==y):=by
    intro x y;show (x.toArray==y.toArray)=_;simp
   simp[Op.equalIn,run_underlying ht,Sh.mk,Sh.isAgg,jO,hb]
  .rename_i s _ _ fs ht;simp only[aP,Bool.not_eq_true'] at h;obtain ⟨hst,hf⟩:=h;have hag:=aj0 hf;have hl:=ada (P:=P) (w:=w) (N:=N) (R:=CU P n) (d:=d) (fun t s us vs c c' h1 h2 h3=>ih t s us vs c c' h1 h2 h3 d (by omega)) fs.toList s 0 [] [] us vs c c' hf rfl rfl hu hv;obtain ⟨fl⟩:=fs;simp only[fJ] at hl;unfold IY at hl;rw[Op.equalIn];simp only[Sh.mk,hag,if_true];simp[run_underlying ht,hst];rw[hl];cases jO s c c'<;>simp
  .cases h
variable{ρ:List C}{bs:List aG}{hv:Nat->Value}
theorem aoi{raw:Bool}{pc:aM}{op:BinOp}{xt:TypeId}{s s':Sh}{ex ey:E}{out:Out}{vx vy:Value}{ox oy:Operand}
  (h:vX P raw pc op xt s ex s' ey=some out) (hagg:s.isAgg=true)
  (hx:bB w N ρ bs hv (.dat s ex) vx) (hy:bB w N ρ bs hv (.dat s' ey) vy):
  out.cmds=[]/\out.nv=0/\kJ P w N ρ bs hv (do eqGuard op xt ox oy vx vy;binOp op xt vx vy) out.x:=by
 unfold vX at h;split at h
 .cases hagg
 .cases hagg
 .cases hagg
 .cases hagg
 .split at h
  .rename_i hok;simp only[aP,bR,Bool.not_eq_true'] at hok;obtain ⟨⟨⟨rfl,_⟩,heq⟩,hg⟩:=hok;obtain ⟨us,h1,h2,_⟩:=hx;obtain ⟨vs,h3,h4,_⟩:=hy;have he:=ajn (P:=P) (w:=w) 5 xt s us vs _ _ heq h1 h3 10000 (by omega);have hgd:∀op,(eqGuard op xt ox oy vx vy).run P w= .ok () w:=by
    intro op;rw[h2,h4];simp only[Sh.mk,hagg,if_true];cases op<;>simp[eqGuard,hg]
   have hbx:vx= .agg us.toArray:=by rw[h2];simp[Sh.mk,hagg]
   have hby:vy= .agg vs.toArray:=by rw[h4];simp[Sh.mk,hagg]
   rw[<-h2,<-h4] at he;split at h
   .simp at h;subst h;refine ⟨rfl,rfl,.bool (jO s (ex.eval ρ) (ey.eval ρ)),?_,by rw[jr];rfl⟩;have hb:(binOp .eql xt vx vy).run P w= .ok (.bool (jO s (ex.eval ρ) (ey.eval ρ))) w:=by
     rw[hbx,hby] at he |-;simp only[binOp];simp[Op.equal,Op.maxDepth,he]
    simp[hgd,hb]
   .simp at h;subst h;refine ⟨rfl,rfl,.bool (!jO s (ex.eval ρ) (ey.eval ρ)),?_,by rw[jr];rfl⟩;have hb:(binOp .neq xt vx vy).run P w= .ok (.bool (!jO s (ex.eval ρ) (ey.eval ρ))) w:=by
     rw[hbx,hby] at he |-;simp only[binOp];simp[Op.equal,Op.maxDepth,he]
    simp[hgd,hb]
   .simp at h
  .simp at h
end
section
variable{P:Program}{w:World}{B:Nat->Prop}{N:Nat->Prop}{ρ:List C}{bs:List aG}{hv:Nat->Value}
theorem Bq(hrows:nk w B N ρ bs hv){pc:aM}(hp:aS ρ pc){ev:Ev}{a:Act}(hev:∀o t x,ev pc o t=some x->bB w N ρ bs hv x (a.eval o)):
  ∀ {os:List Operand} {ts:List TypeId} {l:List (Sh×E)} {f:List Nat},lq ev (aY bs) pc os ts=some (l,f)->
  (∀q∈f,jy bs ρ q)/\dH w (NF N hv f) (dS ρ l) (os.map a.eval)
 | [],ts,l,f,h=>by
  simp[lq] at h;obtain ⟨rfl,rfl⟩:=h;exact ⟨by simp,rfl⟩
 |o::os,ts,l,f,h=>by
  simp only[lq] at h;split at h
  .rename_i s e fx l' g hd hb;simp at h;obtain ⟨rfl,rfl⟩:=h;obtain ⟨x,hx1,hx2⟩:=qx.1 hd;have d:=BQ (uZ hrows hp hx2 (hev o _ x hx1));obtain ⟨r1,r2⟩:=Bq hrows hp hev hb;have m1:∀b,NF N hv fx b->b<w.heap.size->w.heap[b]?=w.heap[b]?/\NF N hv (fx++g) b:=fun b hb _=>⟨rfl,Ja hb⟩;have m2:∀b,NF N hv g b->b<w.heap.size->w.heap[b]?=w.heap[b]?/\NF N hv (fx++g) b:=fun b hb _=>⟨rfl,Iz hb⟩;refine ⟨?_,_,_,rfl,d.mono (aI _) m1,r2.mono (aI _) m2⟩;intro q hq;rcases iZ.1 hq with hq|hq
   .exact zn hp hx2 q hq
   .exact r1 q hq
  .simp at h
theorem I9{w':World}{N':Nat->Prop}:∀ {s:Sh} {vs:List Value} {c:C},s.fQ=true->Rd w N s vs c->Rd w' N' s vs c
 | .int _,_,_,_,h| .bool,_,_,_,h| .str,_,_,_,h| .unit,_,_,_,h=>h
 | .sl _,_,_,hp,_=>by cases hp
 | .mp _ _,_,_,hp,_=>by cases hp
 | .bP _ _,_,_,hp,_=>by cases hp
 | .iX,_,_,_,h| .eU _,_,_,_,h=>h
 | .pair a b,_,_,hp,⟨h0,va,vb,h1,h2,h3⟩=>by
  simp only[Sh.fQ,aP] at hp;exact ⟨h0,va,vb,h1,I9 hp.1 h2,I9 hp.2 h3⟩
theorem Ig{w':World}{N':Nat->Prop}:∀ {l:List (Sh×C)} {vs:List Value},(∀x∈l,x.1.fQ=true)->dH w N l vs->dH w' N' l vs
 | [],_,_,h=>h
 |(s,c)::l,_,hp,⟨v,r,h1,⟨us,h2,h3⟩,h4⟩=>⟨v,r,h1,⟨us,I9 (hp (s,c) (by simp)) h2,h3⟩,Ig (fun x hx=>hp x (by simp[hx])) h4⟩
theorem G8:∀ {l:List (Sh×C)} {vs:List Value},dH w N l vs->vs.length=l.length
 | [],_,h=>by simp only[dH] at h;subst h;rfl
 |(_,_)::_,_,⟨v,r,h1,_,h4⟩=>by subst h1;simp[G8 h4]
theorem Bj:∀(aF:List Sh) (nv:Nat),nv+aF.length<=ρ.length->dS ρ (iq nv aF)=aF.zip ((ρ.drop nv).take aF.length)
 | [],nv,_=>rfl
 |s::aF,nv,h=>by
  simp only[bn] at h;have hlt:nv<ρ.length:=by omega
  have ih:=Bj aF (nv+1) (by omega);simp only[iq,dS,eZ,bn] at ih |-;rw[uP hlt,wz,List.zip_cons_cons,<-ih];simp[E.eval,List.getD,hlt]
theorem Yi{l:List (Sh×E)}{v:Value}(hl:∀x∈l,∀vs,Exact x.1 x.2 vs)(h:JM w N (dS ρ l) v):bB w N ρ bs hv (CB l) v:=by
 obtain ⟨vs,h1,h2⟩:=h;have hlen:=G8 h1;unfold CB;split
 .rename_i s e;obtain ⟨u,r,rfl,h3,h4⟩:=h1;simp only[jI,dH] at h4;subst h4;simp at h2;subst h2;exact uj h3 (hl (s,e) (by simp))
 .rename_i hne;refine ⟨⟨vs,?_,h1⟩,hl⟩;rw[h2];have:¬vs.length=1:=by
   intro h;rw[hlen] at h;match l,h with
   | [(s,e)],_=>exact hne s e rfl
  simp[this]
theorem KZ:∀(aF:List Sh) (nv:Nat),∀x∈iq nv aF,∀vs,Exact x.1 x.2 vs
 | [],_,x,hx=>by simp[iq] at hx
 |s::aF,nv,x,hx=>by
  simp only[iq,iH] at hx;rcases hx with rfl|hx
  .exact nN (by simp) (by simp)
  .exact KZ aF (nv+1) x hx
end
section
variable{P:Program}{cfg:dA}{N0:Nat->Prop}{w0:Wb}{ρ:List C}{S:SS}{hv:Nat->Value}{a:Act}{w:World}{o:Oper}{Q:Exit->Act->World->Prop}{pc:aM}
theorem aJ.PE(h:aJ P N0 w0 ρ S hv a w){b:Nat}(hb:w.heap.size<=b):NN N0 w0.own ρ S.blks hv b:=
 ⟨.inr (.inl (kL h.below.size hb)),fun r k hr hl _ hp hg=>by have:=(h.lt hr hl hp hg).1;omega⟩
theorem fin_step{x:SX}{v:Value}{w':World}{hv':Nat->Value}{bs':List aG}{mD:Nat}(hr:(execOp a.eval o).run P w= .ok (.value v) w')(hrel:aJ P N0 w0 ρ {S with blks:=bs'} hv' a w')
  (hx:bB w' (NN N0 w0.own ρ bs' hv') ρ bs' hv' x v) (hp:aS ρ pc):
  o.wp P a w (fun a' w'=>∃hv',aJ P N0 w0 ρ {tmps:=cO S.tmps o.dst ⟨pc,x⟩,blks:=bs',nv:=mD} hv' a' w') Q:=by
 unfold Oper.wp;rw[hr];exact ⟨hv',(hrel.put o.dst pc x v (fun _=>hx) (fun h=>absurd hp h)).nv mD⟩
theorem lX(hrel:aJ P N0 w0 ρ S hv a w)(hp:aS ρ pc){out:Out}{m:Sem Value}(hc:out.cmds=[])(hr:∀v,m.run P w= .ok v w->(execOp a.eval o).run P w= .ok (.value v) w)
  (hm:kJ P w (NN N0 w0.own ρ S.blks hv) ρ S.blks hv m out.x):
  o.wp P a w (fun a' w'=>∃hv',aJ P N0 w0 ρ {tmps:=cO S.tmps o.dst ⟨pc,out.x⟩,blks:=aW out.cmds S.blks,nv:=S.nv+out.nv} hv' a' w') Q:=by
 obtain ⟨v,h1,h2⟩:=hm;rw[hc];exact fin_step (hr v h1) hrel h2 hp
theorem an2(hrel:aJ P N0 w0 ρ S hv a w)(hp:aS ρ pc){out:Out}{m:Sem Value}(hc:out.cmds=[])(hr:∀v w',m.run P w= .ok v w'->(execOp a.eval o).run P w= .ok (.value v) w')
  (hm:PV P w (NN N0 w0.own ρ S.blks hv) ρ S.blks hv m out.x):
  o.wp P a w (fun a' w'=>∃hv',aJ P N0 w0 ρ {tmps:=cO S.tmps o.dst ⟨pc,out.x⟩,blks:=aW out.cmds S.blks,nv:=S.nv+out.nv} hv' a' w') Q:=by
 obtain ⟨v,w',h1,h2,h3⟩:=hm;rw[hc];exact fin_step (hr v w' h1) (hrel.grow h2) h3 hp
theorem N7(hrel:aJ P N0 w0 ρ S hv a w)(hp:aS ρ pc){out:Out}{f:List Nat}(hc:out.cmds=f.map .aV)(hf:∀q∈f,jy S.blks ρ q){u:Value}{w':World}
  (hr:(execOp a.eval o).run P w= .ok (.value u) w') (hb:Below w.heap.size w w') (hx:bB w' (NF (NN N0 w0.own ρ S.blks hv) hv f) ρ S.blks hv out.x u):
  o.wp P a w (fun a' w'=>∃hv',aJ P N0 w0 ρ {tmps:=cO S.tmps o.dst ⟨pc,out.x⟩,blks:=aW out.cmds S.blks,nv:=S.nv+out.nv} hv' a' w') Q:=by
 rw[hc];refine fin_step hr ((hrel.grow hb).AB f) ?_ hp;exact hx.le (aI _) (fun b hb' _=>⟨rfl,(hrel.grow hb).nf hb' hf⟩) (NW ρ hv f S.blks)
theorem ab2{N:Nat->Prop}{s:Sh}{e:E}:∀ {l:List (Sh×E)} {vs:List Value} {i:Nat},dH w N (dS ρ l) vs->l[i]?=some (s,e)->∃v,vs[i]?=some v/\bq w N s v (e.eval ρ):=by
 intro l;induction l with
 |nil=>intro vs i _ hi;simp at hi
 |cons x l ih=>
  intro vs i hv hi;obtain ⟨v,r,rfl,g1,g2⟩:=hv;cases i with
  |zero=>simp at hi;subst hi;exact ⟨v,rfl,g1⟩
  |succ i=>simpa using ih g2 (by simpa using hi)
theorem abV(hrel:aJ P N0 w0 ρ S hv a w)(hp:aS ρ pc){f:Nat}(hlt:f<1000000){l:List (Sh×E)}{aV:List Nat}{aF:List Sh}{vs:List Value}(h1:∀q∈aV,jy S.blks ρ q)
  (h2:dH w (NF (NN N0 w0.own ρ S.blks hv) hv aV) (dS ρ l) vs) (Ak:tT P f->(execOp a.eval o).run P w= .ok (.enter f vs.toArray) w) (ho:dB P ρ S.nv [.call pc f l aF]):
  o.wp P a w (fun a' w'=>∃hv',aJ P N0 w0 ρ {tmps:=cO S.tmps o.dst ⟨pc,CB (iq S.nv aF)⟩,blks:=aW (if aF.all Sh.fQ then [] else aV.map .aV) S.blks,nv:=S.nv+aF.length} hv' a' w') Q:=by
 obtain ⟨PK,hlen⟩:=ho.1 hp;obtain ⟨hcall,hpc⟩:=PK.mq hlt;have OE:=hpc w (NF (NN N0 w0.own ρ S.blks hv) hv aV) vs hrel.below.now h2;have hrun:=Ak hcall;unfold Oper.wp;rw[hrun,Oper.upon_enter];refine OE.mono fun e w' he=>?_;obtain ⟨v,rfl,hres,hbel⟩:=he;have hg:=hrel.grow hbel;have hex:=KZ aF S.nv;have hev:dS ρ (iq S.nv aF)=aF.zip ((ρ.drop S.nv).take aF.length):=by
  rcases hlen with h0|hlen
  .subst h0;rfl
  .exact Bj (ρ:=ρ) aF S.nv hlen
 rw[<-hev] at hres;by_cases JF:aF.all Sh.fQ=true
 .simp only[JF,if_true];refine ⟨hv,(hg.put o.dst pc _ v (fun _=>Yi hex ?_) (fun h=>absurd hp h)).nv _⟩;obtain ⟨vs,r1,r2⟩:=hres;refine ⟨vs,Ig (fun x hx=>?_) r1,r2⟩;rw[hev] at hx;have:=(List.of_mem_zip hx).1;simp only[nE] at JF;exact JF _ this
 .simp only[JF];refine ⟨hv,((hg.AB aV).put o.dst pc _ v (fun _=>Yi hex ?_) (fun h=>absurd hp h)).nv _⟩;obtain ⟨vs,r1,r2⟩:=hres;refine ⟨vs,r1.mono (aI _) (fun b hb _=>⟨rfl,?_⟩),r2⟩;rcases hb with hb|hb
  .exact hg.nf hb h1
  .exact NY aV (hrel.PE hb)
theorem YA{f:Nat}{args:Array Operand}{ts:Array TypeId}{x:Operand}(hop:o.op= .call {callee:= .value x,args:=args,argTypes:=ts})(hx:a.eval x= .func (.func f) #[] #[])(hc:tT P f):
  (execOp a.eval o).run P w= .ok (.enter f (args.toList.map a.eval).toArray) w:=by
 obtain ⟨fn,hfn,hbody,hname⟩:=hc;have hn:¬fn.name= "runtime.NumGoroutine" :=by simpa using hname
 have hb:¬fn.body=none:=by intro h;simp[h] at hbody
 have harr:(args.toList.map a.eval).toArray=args.map a.eval:=by apply Array.ext';simp
 rw[harr];simp[execOp,hop,resolve,Deferred.ofValue,hx,invoke,callFunc,hfn,hn,hb]
theorem aoe(hrel:aJ P N0 w0 ρ S hv a w)(hp:aS ρ pc){f:Nat}{args:Array Operand}{ts:Array TypeId}(hop:o.op= .call {callee:= .value (.func f),args:=args,argTypes:=ts})(hlt:f<1000000)
  {l:List (Sh×E)} {aV:List Nat} {aF:List Sh} (ha:lq (S.ev P) S.rb pc args.toList ts.toList=some (l,aV)) (ho:dB P ρ S.nv [.call pc f l aF]):
  o.wp P a w (fun a' w'=>∃hv',aJ P N0 w0 ρ {tmps:=cO S.tmps o.dst ⟨pc,CB (iq S.nv aF)⟩,blks:=aW (if aF.all Sh.fQ then [] else aV.map .aV) S.blks,nv:=S.nv+aF.length} hv' a' w') Q:=by
 obtain ⟨h1,h2⟩:=Bq hrel.rows hp (fun o t x=>bC hrel hp) ha;exact abV hrel hp hlt h1 h2 (YA hop rfl) ho
theorem akW(hrel:aJ P N0 w0 ρ S hv a w)(hp:aS ρ pc){out:Out}{f:Nat}{args:Array Operand}{ts:Array TypeId}(hop:o.op= .call {callee:= .value (.func f),args:=args,argTypes:=ts})
  {rs:Option (List Sh)} (h:vN P rs (S.ev P) S.rb pc S.nv f args.toList ts.toList=some out) (ho:dB P ρ S.nv out.obs):
  o.wp P a w (fun a' w'=>∃hv',aJ P N0 w0 ρ {tmps:=cO S.tmps o.dst ⟨pc,out.x⟩,blks:=aW out.cmds S.blks,nv:=S.nv+out.nv} hv' a' w') Q:=by
 unfold vN at h;split at h
 .rename_i l aV aF ha;split at h
  .rename_i hlt;simp only[bQ] at h;subst h;exact aoe hrel hp hop hlt ha ho
  .simp at h
 .simp at h
theorem Lp{N:Nat->Prop}{w':World}{N':Nat->Prop}:∀ {s:Sh} {us:List Value} {e:E},Rd w N s us (e.eval ρ)->yI s us->Rd w' N' s us ((xK s e).eval ρ)/\Exact s (xK s e) us
 | .int _,_,_,h,_| .bool,_,_,h,_| .str,_,_,h,_=>⟨h,trivial⟩
 | .unit,_,_,h,_=>⟨h,trivial⟩
 | .iX,_,_,h,_| .eU _,_,_,h,_=>⟨h,trivial⟩
 | .bP _ _,_,_,_,hn| .mp _ _,_,_,_,hn=>hn.elim
 | .sl e,us,_,_,hn=>by
  simp only[yI] at hn;subst hn;exact ⟨⟨none,0,rfl,aI _,bK _,fun hne=>absurd rfl hne⟩,rfl⟩
 | .pair a b,us,e,h,hn=>by
  obtain ⟨h0,va,vb,h1,h2,h3⟩:=h;obtain ⟨na,nb,n1,n2,n3,n4⟩:=hn;have hl:va.length=na.length:=by rw[h2.length,n2]
  obtain ⟨rfl,rfl⟩:va=na/\vb=nb:=List.append_inj (h1.symm.trans n1) hl;have ha:Rd w N a va ((uH e).eval ρ):=by rw[Ia];exact h2
  have hb:Rd w N b vb ((uG e).eval ρ):=Rd.tX h0 (H9 ρ e).symm h3;obtain ⟨a1,a2⟩:=Lp ha n3;obtain ⟨b1,b2⟩:=Lp hb n4;refine ⟨⟨h0,va,vb,h1,?_,?_⟩,va,vb,h1,n2,a2,b2⟩
  .simpa [xK,E.eval] using a1
  .exact Rd.tX h0 (by simp[xK,E.eval]) b1
theorem akY(hrel:aJ P N0 w0 ρ S hv a w)(hp:aS ρ pc){out:Out}{f:Nat}{args:Array Operand}{ts:Array TypeId}(hop:o.op= .call {callee:= .value (.func f),args:=args,argTypes:=ts})
  (h:vO P (S.ev P) S.rb pc S.nv o.type f args.toList ts.toList=some out) (ho:dB P ρ S.nv out.obs):
  o.wp P a w (fun a' w'=>∃hv',aJ P N0 w0 ρ {tmps:=cO S.tmps o.dst ⟨pc,out.x⟩,blks:=aW out.cmds S.blks,nv:=S.nv+out.nv} hv' a' w') Q:=by
 unfold vO at h;split at h
 .rename_i l aV s ha hrt;simp only[bQ] at h;subst h;obtain ⟨h1,h2⟩:=Bq hrel.rows hp (fun o t x=>bC hrel hp) ha;obtain ⟨PK,hlen⟩:=ho.1 hp;obtain ⟨s',c,Pj,⟨fn,hfn,hbody,hname⟩,hpc⟩:=PK.toN;have OE:=hpc w (NF (NN N0 w0.own ρ S.blks hv) hv aV) (args.toList.map a.eval) hrel.below.now h2;have hrun:(execOp a.eval o).run P w= .ok (.enter f (args.toList.map a.eval).toArray) w:=by
   have hn:¬fn.name= "runtime.NumGoroutine" :=by simpa using hname
   have hb:¬fn.body=none:=by intro h;simp[h] at hbody
   have harr:(args.toList.map a.eval).toArray=args.map a.eval:=by apply Array.ext';simp
   rw[harr];simp[execOp,hop,resolve,Deferred.ofValue,Act.eval,invoke,callFunc,hfn,hn,hb]
  unfold Oper.wp;rw[hrun,Oper.upon_enter];refine OE.mono fun e w' he=>?_;obtain ⟨us,rfl,hres,hnil,hbel⟩:=he;have hg:=hrel.grow hbel;have hlen:S.nv+1<=ρ.length:=by
   rcases hlen with h0|hlen
   .cases h0
   .exact hlen
  have hev:=Bj (ρ:=ρ) [s] S.nv hlen;rw[<-hev] at Pj;simp only[iq,dS,eZ,jI,iJ,fq,and_true] at Pj;obtain ⟨rfl,rfl⟩:=Pj;obtain ⟨r1,r2⟩:=Lp (w':=w') (N':=NN N0 w0.own ρ S.blks hv) hres hnil;exact ⟨hv,(hg.put o.dst pc (.dat s (xK s (.vq S.nv))) (s.mk us) (fun _=>⟨us,r1,rfl,r2⟩) (fun h=>absurd hp h)).nv _⟩
 .simp at h
theorem Bt(hrel:aJ P N0 w0 ρ S hv a w)(hp:aS ρ pc){x:Operand}{k:IntKind}{e:E}(h:nU (S.ev P pc x 0)=some (k,e)):a.eval x= .int k (e.eval ρ).toInt:=by
 unfold nU at h;split at h
 .rename_i k' e' he;simp at h;obtain ⟨rfl,rfl⟩:=h;have:=bC hrel hp he;rwa[gu] at this
 .simp at h
theorem aj8(hrel:aJ P N0 w0 ρ S hv a w)(hp:aS ρ pc){out:Out}{t:TypeId}(hop:o.op= .alloc t)(h:Ad P S.rb pc t o.dst=some out):
  o.wp P a w (fun a' w'=>∃hv',aJ P N0 w0 ρ {tmps:=cO S.tmps o.dst ⟨pc,out.x⟩,blks:=aW out.cmds S.blks,nv:=S.nv+out.nv} hv' a' w') Q:=by
 unfold Ad at h;split at h
 .rename_i s d hs hd;split at h
  .rename_i e hz;split at h
   .rename_i hok;simp only[aP] at hok;simp at h;subst h;obtain ⟨i,v,hi,hz1,hz2,hz3⟩:=Dw (w:=w) (N:=NN N0 w0.own ρ S.blks hv) (ρ:=ρ) hz;obtain ⟨hv',g1,g2⟩:=NR (P:=P) hrel hok.1.1 (s:=s) (t:=t) pc (DF hz2 hz3);refine fin_step (w':=w.alloc (.cells v.cells.toList.toArray t)) ?_ g1 g2 hp;simp[execOp,hop,Instr.alloc,zeroValue,typeInfo,hi,hz1,newVar,newRow]
   .simp at h
  .simp at h
 .simp at h
theorem alT(hrel:aJ P N0 w0 ρ S hv a w)(hp:aS ρ pc){out:Out}{t:TypeId}{x:Operand}(hop:o.op= .box t x)(h:CV P S.rb pc t o.dst (S.ev P pc x t)=some out):
  o.wp P a w (fun a' w'=>∃hv',aJ P N0 w0 ρ {tmps:=cO S.tmps o.dst ⟨pc,out.x⟩,blks:=aW out.cmds S.blks,nv:=S.nv+out.nv} hv' a' w') Q:=by
 unfold CV at h;split at h
 .rename_i s e d he hd;split at h
  .rename_i hok;simp only[aP] at hok;simp at h;subst h;obtain ⟨us,h1,h2,h3⟩:=bC hrel hp he;obtain ⟨hv',g1,g2⟩:=NR (P:=P) hrel hok.1 (s:=s) (t:=t) pc (DF h1 h3);refine fin_step (w':=w.alloc (.cells us.toArray t)) ?_ g1 g2 hp;have hc:(a.eval x).cells=us.toArray:=by
    apply Array.ext';rw[h2,Ip h1.length fun u hu=>(xM h1 u hu).2]
   simp[execOp,hop,Instr.box,newVar,newRow,hc]
  .simp at h
 .rename_i r n d he hd;split at h
  .rename_i s e hr;split at h
   .rename_i hok;simp only[aP] at hok;simp at h;subst h;have hx:=bC hrel hp he;obtain ⟨hv',g1,g2⟩:=NR (P:=P) hrel hok.1 (s:= .sl s) (t:=t) (vs:=[a.eval x]) (cs:=[.full r n]) pc ⟨_,[],rfl,hx,rfl⟩;refine fin_step (w':=w.alloc (.cells [a.eval x].toArray t)) ?_ g1 g2 hp;obtain ⟨p,hin,hpp⟩:=oH hp hr;obtain ⟨hv1,_⟩:=hx.2 _ _ p hin hpp;obtain ⟨et,xs,hown,_,_⟩:=hrel.rows.row r _ _ p hin hpp;have hc:(a.eval x).cells= #[a.eval x]:=by
     rw[hv1];rcases pQ hown with ⟨h5,_,_⟩|⟨g,cap,h5,_⟩<;>rw[h5]<;>rfl
    simp[execOp,hop,Instr.box,newVar,newRow,hc]
   .simp at h
  .simp at h
 .simp at h
theorem KN{s:Sh}{v:Value}{c:C}{N:Nat->Prop}(hz:Rd w N s v.cells.toList c)(hs:0<s.size):∀n,bF w N s ((List.range (n*s.size)).map fun j=>v.cells[j%v.cells.size]!) (List.replicate n c)
 |0=>by simp[bF]
 |n+1=>by
  have hl:v.cells.size=s.size:=by have:=hz.length;simpa using this
  have ih:=KN hz hs n;rw[List.replicate_succ,Nat.add_mul,Nat.one_mul];refine ⟨v.cells.toList,(List.range (n*s.size)).map fun j=>v.cells[j%v.cells.size]!,?_,hz,ih⟩;rw[Nat.add_comm,List.range_add,eB,qy];congr 1
  .apply List.ext_getElem
   .simp[hl]
   .intro j h1 h2;simp at h1 h2;have:j%v.cells.size=j:=wo h2;simp[this,h2]
  .apply yM;intro j _;simp[hl,Nat.add_mod_left]
theorem aky(hrel:aJ P N0 w0 ρ S hv a w)(hp:aS ρ pc){out:Out}{t:TypeId}{l c:Operand}(hop:o.op= .makeSlice t l c)
  (h:Aj P S.rb pc t o.dst (nU (S.ev P pc l 0)) (nU (S.ev P pc c 0))=some out) (ho:dB P ρ S.nv out.obs):
  o.wp P a w (fun a' w'=>∃hv',aJ P N0 w0 ρ {tmps:=cO S.tmps o.dst ⟨pc,out.x⟩,blks:=aW out.cmds S.blks,nv:=S.nv+out.nv} hv' a' w') Q:=by
 unfold Aj at h;split at h
 .rename_i et kl el kc ec d ht hl hc hd;split at h
  .simp at h
  .rename_i s hs;split at h
   .rename_i z hz;split at h
    .rename_i hok;simp only[aP] at hok;obtain ⟨⟨⟨hnew,hfit⟩,hs0⟩,hb0⟩:=hok;have hs0:0<s.size:=by simp at hs0;omega
     have hb0:0<P.bytesOf et:=by simp at hb0;omega
     simp at h;subst h;have el':=Bt hrel hp hl;have ec':=Bt hrel hp hc;obtain ⟨q1,q2⟩:=Ef hp ho;obtain ⟨q3,q4⟩:=Ef hp q2;have q5:=xB hp q4;simp[E.eval,jk,nP] at q1 q3 q5;obtain ⟨i,v,hi,hz1,hz2,hz3⟩:=Dw (w:=w) (N:=NN N0 w0.own ρ S.blks hv) (ρ:=ρ) hz;have hsz:i.size=s.size:=by obtain ⟨i',_,hi',hs',_⟩:=Bv hfit;rw[hi] at hi';injection hi' with hi';rw[hi'];exact hs'
     have hby:P.bytesOf et=i.bytes:=by simp[Program.bytesOf,hi]
     obtain ⟨nl,hnl⟩:∃n:Nat,(el.eval ρ).toInt=(n:Int):=⟨(el.eval ρ).toInt.toNat,by omega⟩;obtain ⟨nc,hnc⟩:∃n:Nat,(ec.eval ρ).toInt=(n:Int):=⟨(ec.eval ρ).toInt.toNat,by omega⟩;have hlc:nl<=nc:=by omega
     have q5:=of_decide_eq_true q5;rw[hnc,hby] at q5;rw[hby] at hb0;have asy:nc<=281474976710656:=by
      have h1:i.bytes*nc<=281474976710656:=by
       have:((i.bytes*nc:Nat):Int)<=281474976710656:=by rw[Int.natCast_mul];exact q5
       omega
      exact kL (Nat.le_mul_of_pos_left _ hb0) h1
     have hmk:=run_make (P:=P) w t et i v (u7 ht) hi hz1 kl kc nl nc (by omega) (by omega) q5 (by omega);simp only[bO,hsz] at hmk;have hW:madeCells v.cells (nc*s.size)=((((List.range (nc*s.size)).map fun j=>v.cells[j%v.cells.size]!).take (nl*s.size))++(((List.range (nc*s.size)).map fun j=>v.cells[j%v.cells.size]!).drop (nl*s.size))).toArray:=by
      rw[zu];unfold madeCells;apply Array.ext';simp[Array.toList_range]
     have hev:(((E.rep el z).eval ρ)).toList=List.replicate nl (z.eval ρ):=by simp[E.eval,hnl]
     have hrow:=(KN hz2 hs0 nc).take nl;rw[List.take_replicate,Nat.min_eq_left hlc,<-hev] at hrow;obtain ⟨hv',g1,g2⟩:=new_row hrel hnew (t:=et) pc (rest:=((List.range (nc*s.size)).map fun j=>v.cells[j%v.cells.size]!).drop (nl*s.size)) (cap:=nc) hrow hs0 (by rw[zu];simp)
      (by simp only[maxLen];omega) el (by rw[hev,hnl];simp)
     rw[<-hW] at g1 g2;rw[hev,mQ] at g2;refine fin_step ?_ g1 g2 hp;simp[execOp,hop,el',ec',hnl,hnc,hmk]
    .simp at h
   .simp at h
 .simp at h
theorem aiC(hrel:aJ P N0 w0 ρ S hv a w)(hp:aS ρ pc){out:Out}{t:TypeId}{len:Nat}{parts:Array (Nat×Operand)}(hop:o.op= .buildSlice t len parts)
  (h:zK P (S.ev P) S.rb pc t len o.dst parts.toList=some out):
  o.wp P a w (fun a' w'=>∃hv',aJ P N0 w0 ρ {tmps:=cO S.tmps o.dst ⟨pc,out.x⟩,blks:=aW out.cmds S.blks,nv:=S.nv+out.nv} hv' a' w') Q:=by
 unfold zK at h;split at h
 .rename_i et d ht hd;split at h
  .simp at h
  .rename_i s hs;split at h
   .rename_i hok;simp only[aP,bR] at hok;obtain ⟨⟨⟨⟨⟨hnew,hfit⟩,hs0⟩,hpl⟩,hlen⟩,hz⟩:=hok;have hs0:0<s.size:=by simp at hs0;omega
    split at h
    .rename_i e hb;simp at h;subst h;obtain ⟨r1,r2,xs,r3,r4⟩:=Lv hrel.rows hp (fun o t x=>bC hrel hp) hb;have r3:bF w (NN N0 w0.own ρ S.blks hv) s xs (e.eval ρ).toList:=r3.mono (aI _) fun b hb _=>⟨rfl,(aqr _ _ _).1 hb⟩;rw[hpl] at r2;have hl:xs.length=len*s.size:=by rw[r3.length,r2]
     have hrun:=Uk (P:=P) (w:=w) (parts:=parts.toList.map fun x=>(x.1,a.eval x.2)) (u7 ht) hfit hz hlen hl fun vs hvs=>by
      have:=r4 vs (by rw[hpl];omega);rw[hpl] at this;simpa using this
     obtain ⟨hv',g1,g2⟩:=new_row hrel hnew (t:=et) pc (rest:=[]) (cap:=len) r3 hs0 (by simpa using hl) (by simp only[maxLen];have:len<=len*s.size:=Nat.le_mul_of_pos_right _ hs0;omega) (.int len) (by simp[E.eval,r2]);rw[r2] at g2;simp only[jl] at g1 g2;refine fin_step ?_ g1 g2 hp;have harr:(parts.map fun x=>(x.1,a.eval x.2))=(parts.toList.map fun x=>(x.1,a.eval x.2)).toArray:=by apply Array.ext';simp
     simp only[execOp,hop];have aqK:(parts.map fun (i,x)=>(i,a.eval x))=(parts.toList.map fun x=>(x.1,a.eval x.2)).toArray:=harr;rw[aqK];simp[hrun]
    .simp at h
   .simp at h
 .simp at h
theorem Xr{P:Program}{t:TypeId}{name:String}{f:FuncId}(h:zW P t name=some f):
  ∃i d m,P.info? t=some i/\P.underlying t=some d/\i.methods.find? (fun m=>m.name==name)=some m/\m.path.toList=[]/\m.func=some (f,false)/\∀e,d≠ .pointer e:=by
 unfold zW at h;split at h
 .rename_i i d hi hd;split at h
  .rename_i m hm;split at h
   .rename_i f' hf;split at h
    .simp at h
    .rename_i hnp;simp at h;obtain ⟨h1,rfl⟩:=h;exact ⟨i,d,m,hi,hd,hm,by rw[h1],hf,fun e he=>hnp e he⟩
   .simp at h
  .simp at h
 .simp at h
theorem run_typeInfo{P:Program}{w:World}{t:TypeId}{i:TypeInfo}(h:P.info? t=some i):(typeInfo t).run P w= .ok i w:=by simp[typeInfo,h]
theorem ajy{P:Program}{w:World}{t:TypeId}{name:String}{f:FuncId}(h:zW P t name=some f)(n:Nat)(v:Value):(nilAhead (n+1) t v name).run P w= .ok (some false) w:=by
 obtain ⟨i,d,m,hi,hd,hm,hp,hf,hnp⟩:=Xr h;unfold nilAhead;simp only[Sem.run_bind,run_typeInfo hi,Result.andThen_ok,hm,hp,followBlind,Sem.run_pure,hf,run_underlying hd];cases d<;>first|rfl|(exact absurd rfl (hnp _))
theorem alm{P:Program}{w:World}{t:TypeId}{name:String}{f:FuncId}(h:zW P t name=some f)(n:Nat)(v:Value):(method (n+1) t v name).run P w= .ok (f,v) w:=by
 obtain ⟨i,d,m,hi,hd,hm,hp,hf,hnp⟩:=Xr h;unfold method;simp only[Sem.run_bind,run_typeInfo hi,Result.andThen_ok,hm,hp,follow,Sem.run_pure,hf,receiverAt,run_underlying hd];cases d<;>first|(simp[Place.get];done)|(exact absurd rfl (hnp _))
theorem Hy(s:Sh)(e:E)(vs:List Value):Exact s (sO e) vs:=nN (by simp[sO]) (by simp[sO]) vs
theorem Zz(ρ:List C)(e:E):(sO e).eval ρ=e.eval ρ:=by simp[sO,E.eval]
theorem BP{w:World}{N:Nat->Prop}{ρ:List C}{bs:List aG}{hv:Nat->Value}{t:TypeId}{s:Sh}{e:E}{v:Value}(h:bB w N ρ bs hv (.dat (.bP t s) e) v):
  ∃us,v= .iface t (s.mk us)/\Rd w N s us (e.eval ρ):=by
 obtain ⟨vs,⟨us,h1,h2⟩,h3,_⟩:=h;subst h1;exact ⟨us,by simpa [Sh.mk,Sh.isAgg] using h3,h2⟩
theorem Nk{w:World}{N:Nat->Prop}{ρ:List C}{bs:List aG}{hv:Nat->Value}{e:E}{v:Value}(h:bB w N ρ bs hv (.dat .iX e) v):v= .nilIface:=by
 obtain ⟨vs,h1,h3,_⟩:=h;simp only[Rd] at h1;subst h1;simpa [Sh.mk,Sh.isAgg] using h3
theorem Ml{w:World}{N:Nat->Prop}{ρ:List C}{bs:List aG}{hv:Nat->Value}{t:TypeId}{s:Sh}{e:E}{us:List Value}(h:Rd w N s us (e.eval ρ)):bB w N ρ bs hv (.dat (.bP t s) e) (.iface t (s.mk us)):=
 ⟨[.iface t (s.mk us)],⟨us,rfl,h⟩,by simp[Sh.mk,Sh.isAgg],by cases e<;>trivial⟩
theorem akM{P:Program}{w:World}(d:Nat){xt:TypeId}{l:Array (String×TypeId)}(hu:P.underlying xt=some (.interface l))(t:TypeId)(v:Value):(Op.equalIn (d+1) xt (.iface t v) .nilIface).run P w= .ok false w:=by
 simp[Op.equalIn,run_underlying hu]
theorem alN{P:Program}{w:World}(d:Nat){xt:TypeId}{l:Array (String×TypeId)}(hu:P.underlying xt=some (.interface l)):(Op.equalIn (d+1) xt .nilIface .nilIface).run P w= .ok true w:=by
 simp[Op.equalIn,run_underlying hu]
theorem ZC{P:Program}{w:World}{xt:TypeId}{l:Array (String×TypeId)}(hu:P.underlying xt=some (.interface l)){t:TypeId}{v:Value}:(Op.equal xt (.iface t v) .nilIface).run P w= .ok false w:=by
 unfold Op.equal;exact akM 9999 hu t v
theorem aau{P:Program}{w:World}{xt:TypeId}{l:Array (String×TypeId)}(hu:P.underlying xt=some (.interface l)):(Op.equal xt .nilIface .nilIface).run P w= .ok true w:=by
 unfold Op.equal;exact alN 9999 hu
theorem XR(hrel:aJ P N0 w0 ρ S hv a w)(hp:aS ρ pc){out:Out}{f:Nat}{pre:List (Sh×E)}{us:List Value}{args:List Operand}{ts:List TypeId}
  (h:oP P cfg (S.ev P) S.rb pc S.nv o.type f pre args ts=some out) (hpre:∀ {l:List (Sh×E)} {vs:List Value} {N:Nat->Prop},(∀b,NN N0 w0.own ρ S.blks hv b->N b)->dH w N (dS ρ l) vs->dH w N (dS ρ (pre++l)) (us++vs))
  (Ak:tT P f->(execOp a.eval o).run P w= .ok (.enter f (us++args.map a.eval).toArray) w) (ho:dB P ρ S.nv out.obs):
  o.wp P a w (fun a' w'=>∃hv',aJ P N0 w0 ρ {tmps:=cO S.tmps o.dst ⟨pc,out.x⟩,blks:=aW out.cmds S.blks,nv:=S.nv+out.nv} hv' a' w') Q:=by
 unfold oP at h;split at h
 .rename_i l aV aF ha hr;split at h
  .rename_i hlt;injection h with h;subst h;obtain ⟨h1,h2⟩:=Bq hrel.rows hp (fun o t x=>bC hrel hp) ha;exact abV hrel hp hlt h1 (hpre (fun b hb=> .inl hb) h2) Ak ho
  .simp at h
 .simp at h
theorem akK{x:Operand}{name:String}{args:Array Operand}{ts:Array TypeId}(hop:o.op= .call {callee:= .invoke x name,args:=args,argTypes:=ts}){t:TypeId}{v:Value}(hx:a.eval x= .iface t v){f:FuncId}(hm:zW P t name=some f)(hc:tT P f):
  (execOp a.eval o).run P w= .ok (.enter f ([v]++args.toList.map a.eval).toArray) w:=by
 obtain ⟨fn,hfn,hbody,hname⟩:=hc;have hn:¬fn.name= "runtime.NumGoroutine" :=by simpa using hname
 have hb:¬fn.body=none:=by intro h;simp[h] at hbody
 obtain ⟨n,hd⟩:∃n,P.types.size+Made.depth=n+1:=⟨P.types.size+99,rfl⟩;have harr:([v]++args.toList.map a.eval).toArray= #[v]++args.map a.eval:=by apply Array.ext';simp
 rw[harr];have hext:(#[Value.iface t v]++args.map a.eval).extract 1 (#[Value.iface t v]++args.map a.eval).size=args.map a.eval:=by
  apply Array.ext';simp;rw[jB (by simp)]
 have h0:(#[Value.iface t v]++args.map a.eval)[0]?=some (.iface t v):=by rw[Array.getElem?_append_left (by simp)];rfl
 have hres:(resolve a.eval {callee:= .invoke x name,args:=args,argTypes:=ts} o.type).run P w= .ok {target:= .fn (.method name) #[],args:= #[.iface t v]++args.map a.eval} w:=by simp[resolve,hx]
 have hcm:(callMethod (.iface t v) name (args.map a.eval)).run P w= .ok (.enter f (#[v]++args.map a.eval)) w:=by
  simp[callMethod,hd,alm hm,callFunc,hfn,hn,hb]
 simp only[execOp,hop];rw[Sem.run_bind,hres];simp only[Result.andThen_ok,invoke,h0,hext];exact hcm
theorem aj9{t:TypeId}{s:Sh}{e:E}{N:Nat->Prop}(h:OP P t s=some e):∃z,(zeroValue t).run P w= .ok z w/\Rd w N s [z] (e.eval ρ):=by
 unfold OP at h;split at h
 .rename_i v hv;obtain ⟨i,hi,hz⟩:=qx.1 hv;split at h
  .rename_i e' hu;injection h with h;subst h;obtain ⟨us,h1,h2,_⟩:=KY (w:=w) (N:=N) (ρ:=ρ) hu;simp at h1;subst h1;exact ⟨v,by simp[zeroValue,typeInfo,hi,hz],h2⟩
  .simp at h
 .simp at h
theorem Zi{t:TypeId}{kk:IntKind}{et:TypeId}(h:FU P t=some (kk,et)):∃k,P.underlying t=some (.map k et)/\P.underlying k=some (.int kk):=by
 unfold FU at h;split at h
 .rename_i k e hu;split at h
  .rename_i k' hk;simp at h;obtain ⟨rfl,rfl⟩:=h;exact ⟨k,hu,hk⟩
  .simp at h
 .simp at h
theorem akx(hrel:aJ P N0 w0 ρ S hv a w)(hp:aS ρ pc){x:Operand}{t:TypeId}{k:IntKind}{s:Sh}{e:E}(h:Cn S.rb pc (S.ev P pc x t)=some (k,s,e)):
  ∃g l,a.eval x= .map (some g)/\mO w g k l/\l8 (fun v d=>Rd w (NN N0 w0.own ρ S.blks hv) s [v] d) l (e.eval ρ).toList:=by
 unfold Cn at h;split at h
 .rename_i he;simp at h;obtain ⟨rfl,rfl,rfl⟩:=h;obtain ⟨vs,⟨g,l,h1,h2,h3,h4,h5⟩,h6,_⟩:=bC hrel hp he;subst h1;exact ⟨g,l,by simpa [Sh.mk,Sh.isAgg] using h6,h4,h5⟩
 .rename_i r he;obtain ⟨p,h1,h2⟩:=Na hp h;obtain ⟨g,l,h3,h4,h5,h6⟩:=hrel.rows.map r _ _ _ p h1 h2;obtain ⟨hkn,hx⟩:=bC hrel hp he;exact ⟨g,l,by rw[hx,h3],h5,h6⟩
 .simp at h
theorem abd{s:Sh}(h:s.isAgg=false)(v:Value):s.mk [v]=v:=by simp[Sh.mk,h]
theorem amt{out:Out}(hrel:aJ P N0 w0 ρ S hv a w)(hp:aS ρ pc)(h:pE P cfg o pc (S.ev P) S.rb S.nv=some out)(ho:dB P ρ S.nv out.obs):
  o.wp P a w (fun a' w'=>∃hv',aJ P N0 w0 ρ {tmps:=cO S.tmps o.dst ⟨pc,out.x⟩,blks:=aW out.cmds S.blks,nv:=S.nv+out.nv} hv' a' w') Q:=by
 unfold pE at h;split at h
 .rename_i x name args ts hop;split at h
  .rename_i t s e he;split at h
   .rename_i f hm;obtain ⟨us,h1,h2⟩:=BP (bC hrel hp he);refine XR hrel hp (us:=[s.mk us]) h (fun hN hl=>⟨_,_,rfl,⟨us,h2.mono (aI _) fun b hb _=>⟨rfl,hN b hb⟩,rfl⟩,hl⟩) (akK hop h1 hm) ho
   .simp at h
  .simp at h
 .simp at h
 .rename_i x args ts _ hop;split at h
  .rename_i f e he;obtain ⟨vs,h1,h2,_⟩:=bC hrel hp he;simp only[Rd] at h1;subst h1;exact XR hrel hp (us:=[]) h (fun _ hl=>hl) (YA hop (by simpa [Sh.mk,Sh.isAgg] using h2)) ho
  .simp at h
 .rename_i t m x ok hop;split at h
  .rename_i kk et k' ek Gm s e ht hk hm;split at h
   .rename_i hok;simp only[aP,bR,Bool.not_eq_true'] at hok;obtain ⟨⟨rfl,rfl⟩,hag⟩:=hok;split at h
    .rename_i z hz;obtain ⟨g,l,h1,h2,h3⟩:=akx hrel hp hm;obtain ⟨z',hz1,hz2⟩:=aj9 (w:=w) (ρ:=ρ) (N:=NN N0 w0.own ρ S.blks hv) hz;obtain ⟨kt,hu1,hu2⟩:=Zi ht;have hkv:=Bt hrel hp hk;have hrun:=h2.anM hu1 hu2 hz1 (ek.eval ρ).toInt ok;have hval:Rd w (NN N0 w0.own ρ S.blks hv) s [(look l (ek.eval ρ).toInt).getD z'] ((E.gB e ek z).eval ρ)/\(look l (ek.eval ρ).toInt).isSome=((E.ql e ek).eval ρ).toBool:=by
      rcases h3.find (ek.eval ρ).toInt with ⟨f1,f2⟩|⟨v,d,f1,f2,f3⟩
      .simp only[E.eval,f1,f2];exact ⟨hz2,rfl⟩
      .simp only[E.eval,f1,f2];exact ⟨f3,rfl⟩
     have hrd:bq w (NN N0 w0.own ρ S.blks hv) s ((look l (ek.eval ρ).toInt).getD z') ((sO (.gB e ek z)).eval ρ):=⟨[_],by rw[Zz];exact hval.1,(abd hag _).symm⟩;cases ok with
     |true=>
      simp only[if_true,bQ] at h hrun;subst h;refine fin_step (v:= .tuple #[(look l (ek.eval ρ).toInt).getD z',.bool (look l (ek.eval ρ).toInt).isSome]) (bs':=S.blks) (w':=w) ?_ hrel ?_ hp
      .simp only[execOp,hop,h1,hkv];rw[Sem.run_bind,hrun];rfl
      .refine ⟨⟨[_,_],rfl,⟨_,_,rfl,hrd,_,_,rfl,⟨[.bool (look l (ek.eval ρ).toInt).isSome],?_,by simp[Sh.mk,Sh.isAgg]⟩,rfl⟩⟩,?_⟩
       .rw[hval.2];rfl
       .intro x hx vs;simp only[iH,List.not_mem_nil,or_false] at hx;rcases hx with rfl|rfl
        .exact Hy _ _ _
        .trivial
     |false=>
      simp only[rA,if_false,bQ] at h hrun;subst h;refine fin_step (bs':=S.blks) (w':=w) ?_ hrel (uj hrd (Hy _ _)) hp;simp only[execOp,hop,h1,hkv];rw[Sem.run_bind,hrun];rfl
    .simp at h
   .simp at h
  .simp at h
 .rename_i t hop;split at h
  .rename_i kk et d ht hd;split at h
   .rename_i s hs;split at h
    .rename_i hok;simp only[aP] at hok;injection h with h;subst h;obtain ⟨k0,hk0,hkn⟩:=DY hok.1;have hdl:d<S.blks.length:=(dF.1 hk0).1;obtain ⟨g1,g2⟩:=hrel.new (w':=w.alloc (.map #[] 0)) ⟨k0,hk0,hkn⟩ (.mp kk s .nil) pc (.map (some w.heap.size)) ((Below.refl _ w).alloc (aI _) _) (fun g hg=>by injection hg with hg;omega)
      (fun _=>⟨w.heap.size,[],by simp[upd],.inl hrel.below.size,mO.new w kk,by simp[E.eval,l8]⟩)
     refine fin_step ?_ g1 ⟨⟨_,zw hdl,by simp⟩,by simp[upd];rfl⟩ hp;simp only[execOp,hop,Option.map_none];rw[Sem.run_bind,run_makeMap];rfl
    .simp at h
   .simp at h
  .simp at h
 .rename_i t x hop;split at h
  .rename_i e d ht he hd;split at h
   .rename_i hok;injection h with h;subst h;obtain ⟨k0,hk0,hkn⟩:=DY hok;have hdl:d<S.blks.length:=(dF.1 hk0).1;have hx:=bC hrel hp he;rw[oJ] at hx;obtain ⟨g1,g2⟩:=hrel.new (w':=w.alloc (.stringIter ⟨(e.eval ρ).toStr.toArray⟩ 0)) ⟨k0,hk0,hkn⟩ (.sit e (.int 0)) pc (.pointer (some ⟨w.heap.size,0,none⟩)) ((Below.refl _ w).alloc (aI _) _) (fun g hg=>by injection hg with hg;simp at hg;omega)
     (fun _=>⟨w.heap.size,0,by simp[upd],.inl hrel.below.size,rfl,heap_alloc_new w _⟩)
    refine fin_step ?_ g1 ⟨⟨_,zw hdl,by simp⟩,by simp[upd];rfl⟩ hp;simp only[execOp,hop,hx];simp[Instr.range,run_underlying ht]
   .simp at h
  .simp at h
 .simp at h
theorem aly{out:Out}(hrel:aJ P N0 w0 ρ S hv a w)(hp:aS ρ pc)(h:jA P cfg o pc (S.ev P) S.rb S.nv=some out)(ho:dB P ρ S.nv out.obs):
  o.wp P a w (fun a' w'=>∃hv',aJ P N0 w0 ρ {tmps:=cO S.tmps o.dst ⟨pc,out.x⟩,blks:=aW out.cmds S.blks,nv:=S.nv+out.nv} hv' a' w') Q:=by
 unfold jA at h;split at h
 case h_1 x hop=>
  split at h
  .rename_i y hy;simp at h;subst h;exact lX hrel hp rfl (m:=pure (a.eval x)) (fun v hv=>by simp at hv;subst hv;simp[execOp,hop]) ⟨_,by simp,bC hrel hp hy⟩
  .simp at h
 case h_2 x hop=>
  split at h
  .rename_i y hy;simp at h;subst h;exact lX hrel hp rfl (m:=pure (a.eval x)) (fun v hv=>by simp at hv;subst hv;simp[execOp,hop]) ⟨_,by simp,bC hrel hp hy⟩
  .simp at h
 case h_3 c x y hop=>
  obtain ⟨h1,h2,h3,h4⟩:=akh (P:=P) (vc:=a.eval c) (va:=a.eval x) (vb:=a.eval y) h (fun z hz=>bC hrel hp hz)
   (fun e z hc hb hz=>bC hrel (Bh.2 ⟨hp,Bg.2 hb⟩) hz) (fun e z hc hb hz=>bC hrel (Bh.2 ⟨hp,Bg.2 hb⟩) hz)
  refine lX hrel hp h1 (fun v hv=>?_) h4;simp only[execOp,hop];simp at hv |-;cases hb:(asBool (a.eval c)).run P w with
  |ok b w'=>simp[hb] at hv |-;obtain ⟨rfl,rfl⟩:=hv;simp
  |halt hh w'=>simp[hb] at hv
 case h_4 op xt x y yt hop=>
  split at h
  .rename_i s ex s' ey hx hy;by_cases hag:s.isAgg=false
   .obtain ⟨h1,h2,h3⟩:=alU (P:=P) (ox:=x) (oy:=y) h hag hp ho (bC hrel hp hx) (bC hrel hp hy);refine lX hrel hp h1 (fun v hv=>?_) h3;simp only[execOp,hop];rw[Sem.run_bind,hv];simp
   .obtain ⟨h1,h2,h3⟩:=aoi (P:=P) (ox:=x) (oy:=y) h (by simpa using hag) (bC hrel hp hx) (bC hrel hp hy);refine lX hrel hp h1 (fun v hv=>?_) h3;simp only[execOp,hop];rw[Sem.run_bind,hv];simp
  .simp at h
 case h_5 op t x hop=>
  obtain ⟨h1,h2,h3,h4⟩:=al4 (P:=P) (v:=a.eval x) h (fun z hz=>bC hrel hp hz);refine lX hrel hp h1 (fun v hv=>?_) h4;simp only[execOp,hop];rw[Sem.run_bind,hv];simp
 case h_6 src dst x hop=>
  obtain ⟨h1,h2,h3⟩:=akU (P:=P) hrel.rows hp (v:=a.eval x) h (fun z hz=>bC hrel hp hz) ho (fun b hb=>hrel.PE hb);refine an2 hrel hp h1 (fun v w' hv=>?_) h3;simp only[execOp,hop];rw[Sem.run_bind,hv];simp
 case h_7 t i hop=>
  split at h
  .rename_i l hl;split at h
   .rename_i s e hi;simp at h;subst h;obtain ⟨⟨vs,h1,h2⟩,hex⟩:=bC hrel hp hl;obtain ⟨v,h3,h4⟩:=ab2 h2 hi;refine lX hrel hp rfl (m:=Instr.extract (a.eval t) i) (fun v hv=>?_) ⟨v,by rw[h1];simp[Instr.extract,h3],uj h4 (hex (s,e) (List.mem_of_getElem? hi))⟩;simp only[execOp,hop];rw[Sem.run_bind,hv];simp
   .simp at h
  .rename_i r n l hl;obtain ⟨hkn,v1,vr,h1,h2,h3,hex⟩:=bC hrel hp hl;split at h
   .simp at h;subst h;refine lX hrel hp rfl (m:=Instr.extract (a.eval t) 0) (fun v hv=>?_) ⟨v1,by rw[h1];simp[Instr.extract],hkn,h2⟩;simp only[execOp,hop];rw[Sem.run_bind,hv];simp
   .rename_i i;split at h
    .rename_i s e hi;simp at h;subst h;obtain ⟨v,h4,h5⟩:=ab2 h3 hi;refine lX hrel hp rfl (m:=Instr.extract (a.eval t) (i+1)) (fun v hv=>?_) ⟨v,by rw[h1];simp[Instr.extract,h4],uj h5 (hex (s,e) (List.mem_of_getElem? hi))⟩;simp only[execOp,hop];rw[Sem.run_bind,hv];simp
    .simp at h
  .simp at h
 case h_8 t x j hop=>
  obtain ⟨h1,h2,h3,h4⟩:=ajX (P:=P) (v:=a.eval x) h (fun z hz=>bC hrel hp hz);refine lX hrel hp h1 (fun v hv=>?_) h4;simp only[execOp,hop];rw[Sem.run_bind,hv];simp
 case h_9 t parts hop=>
  obtain ⟨f,h1,h2,h3,h4,u,h5,h6⟩:=ajp (P:=P) hrel.rows hp (fun o t x=>bC hrel hp) h;refine N7 hrel hp h1 h2 (w':=w) (u:=u) ?_ (Below.refl _ _) h6;have harr:(parts.map fun (i,x)=>(i,a.eval x))=parts.toList.toArray.map fun x=>(x.1,a.eval x.2):=by apply Array.ext';simp
  simp only[execOp,hop,harr];rw[Sem.run_bind,h5];simp
 case h_10 t len parts hop=>
  split at h
  .exact aiC hrel hp hop h
  .obtain ⟨f,h1,h2,h3,h4,u,w',h5,h6,h7⟩:=aiu (P:=P) hrel.rows hp (fun o t x=>bC hrel hp) h (fun b hb=>hrel.PE hb);refine N7 hrel hp h1 h2 (u:=u) ?_ h6 h7;have harr:(parts.map fun (i,x)=>(i,a.eval x))=parts.toList.toArray.map fun x=>(x.1,a.eval x.2):=by apply Array.ext';simp
   simp only[execOp,hop,harr];rw[Sem.run_bind,h5];simp
 case h_11 t hop=>exact aj8 hrel hp hop h
 case h_12 t x hop=>exact alT hrel hp hop h
 case h_13 t x hop=>
  obtain ⟨f,h1,h2,h3,h4,u,h5,h6⟩:=LH (P:=P) hrel.rows hrel.boxes hp (v:=a.eval x) h (fun z hz=>bC hrel hp hz);refine N7 hrel hp h1 h2 (w':=w) (u:=u) ?_ (Below.refl _ _) h6;simp only[execOp,hop];rw[Sem.run_bind,h5];simp
 case h_14 x hop=>
  obtain ⟨h1,h2,h3,h4,h5⟩:=alB hrel.rows hp (v:=a.eval x) h (fun z hz=>bC hrel hp hz);refine lX hrel hp h1 (m:=pure (a.eval x)) (fun v hv=>?_) ⟨_,by simp,h4⟩;simp at hv;subst hv;rcases h5 with ⟨ad,h5⟩|⟨f,h5⟩<;>simp[execOp,hop,h5]
 case h_15 st x j hop=>
  obtain ⟨h1,h2,h3,h4⟩:=ajY (P:=P) (v:=a.eval x) hp h (fun z hz=>bC hrel hp hz);refine lX hrel hp h1 (fun v hv=>?_) h4;simp only[execOp,hop];rw[Sem.run_bind,hv];simp
 case h_16 t x i hop=>
  obtain ⟨h1,h2,h3⟩:=ajU (P:=P) (ki:= .i64) hrel.rows hp (v:=a.eval x) (vi:=a.eval i) h (fun z hz=>bC hrel hp hz) (fun k e hi=>Bt hrel hp hi) ho;refine lX hrel hp h1 (fun v hv=>?_) h3;simp only[execOp,hop];rw[Sem.run_bind,hv];simp
 case h_17 t x i hop=>
  obtain ⟨h1,h2,h3⟩:=ajT (P:=P) hp (v:=a.eval x) (vi:=a.eval i) h (fun z hz=>bC hrel hp hz) (fun k e hi=>Bt hrel hp hi) ho;refine lX hrel hp h1 (fun v hv=>?_) h3;simp only[execOp,hop];rw[Sem.run_bind,hv];simp
 case h_18 t x lo hi hop=>
  obtain ⟨h1,h2,h3⟩:=ajx (P:=P) hrel.rows hp (a:=a) (fun o k e he=>by have:=bC hrel hp he;rwa[gu] at this) (v:=a.eval x) h (fun z hz=>bC hrel hp hz) ho;refine lX hrel hp h1 (fun v hv=>?_) h3;simp only[execOp,hop];rw[Sem.run_bind];have hv':(Instr.sliceAt t (a.eval x) (lo.map a.eval) (hi.map a.eval) (Option.map a.eval none)).run P w= .ok v w:=hv;rw[hv'];simp
 case h_19 t l c hop=>exact aky hrel hp hop h ho
 case h_20 b args ts hop=>
  have Ak:∀(m:Sem Value),(∀consts,builtin b ts o.type consts (args.map a.eval)=(do pure (.value (<-m))))->∀v,m.run P w= .ok v w->(execOp a.eval o).run P w= .ok (.value v) w:=by
   intro m hm v hv;simp only[execOp,hop,resolve,invoke];simp only[Sem.run_bind,Sem.run_pure,Result.andThen_ok,hm,hv]
  unfold rU at h;split at h
  .rename_i x t hargs hts;obtain ⟨al⟩:=args;obtain ⟨tl⟩:=ts;simp only at hargs hts;subst hargs hts;obtain ⟨h1,h2,h3,h4⟩:=alD (P:=P) (ty:=o.type) hrel.rows hp (v:=a.eval x) h (fun z hz=>bC hrel hp hz);exact lX hrel hp h1 (Ak _ (fun _=>by simp[builtin])) h4
  .rename_i x y hargs;obtain ⟨al⟩:=args;simp only at hargs;subst hargs;obtain ⟨h1,h2,h3,h4⟩:=ao4 (P:=P) (ts:=ts) (ty:=o.type) (v:=a.eval x) (u:=a.eval y) h (fun z hz=>bC hrel hp hz) (fun z hz=>bC hrel hp hz);exact lX hrel hp h1 (Ak _ (fun _=>by simp[builtin])) h4
  .rename_i x y hargs;obtain ⟨al⟩:=args;simp only at hargs;subst hargs;obtain ⟨h1,h2,h3,h4⟩:=ao5 (P:=P) (ts:=ts) (ty:=o.type) (v:=a.eval x) (u:=a.eval y) h (fun z hz=>bC hrel hp hz) (fun z hz=>bC hrel hp hz);exact lX hrel hp h1 (Ak _ (fun _=>by simp[builtin])) h4
  .simp at h
 case h_21 f args ts hop=>
  split at h
  .simp at h
  .split at h
   .exact akY hrel hp hop h ho
   .exact akW hrel hp hop h ho
 case h_22=>exact amt hrel hp h ho
theorem Yt{l:List String}(h:Instr.least l=none):l=[]:=by
 cases l with
 |nil=>rfl
 |cons s r=>simp[Instr.least] at h
theorem Xq(want:Array (String×TypeId))(got:Array Method):Instr.missingMethod want got=none↔((want.toList.filter fun x=> !got.any fun m=>m.name==x.1&&m.sig==x.2).map (·.1))=[]:=by
 unfold Instr.missingMethod;generalize ((want.toList.filter fun x=> !got.any fun m=>m.name==x.1&&m.sig==x.2).map (·.1))=l;constructor
 .intro h;simp only[List.partition_eq_filter_filter] at h;cases h1:Instr.least (l.filter (not∘fun x=>x.contains (Char.ofNat 46))) with
  |some m=>rw[h1] at h;simp at h
  |none=>
   rw[h1] at h;have h2:Instr.least ((l.filter fun x=>x.contains (Char.ofNat 46)).map fun id=>(id.splitOn ".").getLastD id)=none:=by simpa using h
   have e1:=Yt h1;have e2:=Yt h2;rw[List.map_eq_nil_iff] at e2;cases l with
   |nil=>rfl
   |cons s r=>
    exfalso;have hs:s∈s::r:=List.mem_cons_self;rw[List.filter_eq_nil_iff] at e1 e2;have a1:=e1 s hs;have a2:=e2 s hs;simp only[Function.comp] at a1;cases hb:s.contains (Char.ofNat 46)<;>simp_all
 .intro h;subst h;rfl
theorem alo{out:Out}(hrel:aJ P N0 w0 ρ S hv a w)(hp:aS ρ pc)(h:sI P o pc (S.ev P)=some out)(ho:dB P ρ S.nv out.obs):
  out.cmds=[]/\out.nv=0/\∃v,(execOp a.eval o).run P w= .ok (.value v) w/\bB w (NN N0 w0.own ρ S.blks hv) ρ S.blks hv out.x v:=by
 unfold sI at h;split at h
 .rename_i t x hop;split at h
  .rename_i s e d he hu;split at h
   .simp at h
   .rename_i hni;injection h with h;subst h;obtain ⟨us,h1,h2,_⟩:=bC hrel hp he;refine ⟨rfl,rfl,.iface t (a.eval x),?_,by rw[h2];exact Ml h1⟩;have hm:(Instr.makeInterface t (a.eval x)).run P w= .ok (.iface t (a.eval x)) w:=by
     unfold Instr.makeInterface;simp only[Sem.run_bind,run_underlying hu,Result.andThen_ok];cases d<;>first|rfl|simp at hni
    simp only[execOp,hop];rw[Sem.run_bind,hm];rfl
  .simp at h
 .rename_i name first captured hop
  split at h
  .rename_i x hf hc;split at h
   .rename_i t s e he;injection h with h;subst h;obtain ⟨us,h1,h2⟩:=BP (bC hrel hp he);obtain ⟨fl⟩:=first
    obtain ⟨cl⟩:=captured;simp only at hf hc;subst hf hc;exact ⟨rfl,rfl,_,by simp[execOp,hop,Instr.makeFunc,h1];rfl,us,by simp⟩
   .simp at h
  .simp at h
 .rename_i x hop;split at h
  .rename_i t s name he;split at h
   .rename_i hm;injection h with h;subst h;obtain ⟨us,h1⟩:=bC hrel hp he;obtain ⟨f,hf⟩:=kK.1 hm;refine ⟨rfl,rfl,a.eval x,?_,us,h1⟩;have hn:∃n,P.types.size+Made.depth=n+1:=⟨P.types.size+99,rfl⟩;obtain ⟨n,hn⟩:=hn;simp only[execOp,hop,h1];simp[hn,ajy hf]
   .simp at h
  .simp at h
 .rename_i t i hop;split at h
  .rename_i s p he;injection h with h;subst h;obtain ⟨q,h1,h2⟩:=bC hrel hp he;refine ⟨rfl,rfl,.bool (decide (q<(s.eval ρ).toStr.length)),?_,?_⟩
   .simp only[execOp,hop,h2];split<;>rename_i hlt<;>simp[Instr.extract,hlt]
   .rw[jr];simp[E.eval,jk,h1]
  .rename_i s p he;injection h with h;subst h;obtain ⟨q,h1,h2⟩:=bC hrel hp he;have h3:=ho.1 hp;simp[E.eval,jk,h1] at h3;refine ⟨rfl,rfl,.int .i64 q,?_,by rw[gu,h1]⟩;rw[if_pos h3] at h2;simp[execOp,hop,h2,Instr.extract]
  .rename_i s p he;injection h with h;subst h;obtain ⟨q,h1,h2⟩:=bC hrel hp he;have h3:=ho.1 hp;simp[E.eval,jk,h1] at h3;refine ⟨rfl,rfl,_,?_,by rw[gu]⟩;rw[if_pos h3] at h2;simp[execOp,hop,h2,Instr.extract,E.eval,h1]
  .rename_i he;injection h with h;subst h;obtain ⟨z,h2⟩:=bC hrel hp he;exact ⟨rfl,rfl,z,by simp[execOp,hop,h2,Instr.extract],trivial⟩
  .rename_i he;injection h with h;subst h;obtain ⟨z,h2⟩:=bC hrel hp he;exact ⟨rfl,rfl,.bool false,by simp[execOp,hop,h2,Instr.extract],by rw[jr];rfl⟩
  .simp at h
 .rename_i x xt ty ok hop;have hzero:((P.info? ty).bind (·.zero)).isSome=true->∃z,(zeroValue ty).run P w= .ok z w:=by
   intro hz;obtain ⟨z,hz⟩:=kK.1 hz;obtain ⟨i,hi,hz⟩:=qx.1 hz;exact ⟨z,by simp[zeroValue,typeInfo,hi,hz]⟩
  split at h
  .rename_i t s e want he hu;obtain ⟨us,h1,h2⟩:=BP (bC hrel hp he);split at h
   .rename_i hall;have hmm:∃i,P.info? t=some i/\Instr.missingMethod want i.methods=none:=by
     unfold hasAll at hall;obtain ⟨i,hi,hm⟩:=uO.1 hall;exact ⟨i,hi,(Xq _ _).2 (List.isEmpty_iff.1 hm)⟩
    obtain ⟨i,hi,hm⟩:=hmm;cases ok with
    |true=>
     simp only[if_true,bQ] at h;subst h;refine ⟨rfl,rfl,.tuple #[.iface t (s.mk us),.bool true],?_,⟨⟨[.iface t (s.mk us),.bool true],rfl,⟨_,_,rfl,BQ (Ml (bs:=S.blks) (hv:=hv) h2),_,_,rfl,⟨[.bool true],rfl,by simp[Sh.mk,Sh.isAgg]⟩,rfl⟩⟩,?_⟩⟩
     .simp[execOp,hop,h1,Instr.typeAssert,run_underlying hu,run_typeInfo hi,hm]
     .intro x hx vs;simp only[iH,List.not_mem_nil,or_false] at hx;rcases hx with rfl|rfl
      .cases e<;>trivial
      .trivial
    |false=>
     simp only[rA,if_false,bQ] at h;subst h;refine ⟨rfl,rfl,.iface t (s.mk us),?_,Ml h2⟩;simp[execOp,hop,h1,Instr.typeAssert,run_underlying hu,run_typeInfo hi,hm]
   .rename_i hall;have hmm:∃i m,P.info? t=some i/\Instr.missingMethod want i.methods=some m:=by
     unfold hasAll at hall;obtain ⟨i,hi,hm⟩:=uO.1 hall;cases hx:Instr.missingMethod want i.methods with
     |none=>rw[(Xq _ _).1 hx] at hm;cases hm
     |some m=>exact ⟨i,m,hi,hx⟩
    obtain ⟨i,m,hi,hm⟩:=hmm;split at h
    .rename_i hok;simp only[aP] at hok;injection h with h;subst h;obtain ⟨z,hz⟩:=hzero hok.2;refine ⟨rfl,rfl,.tuple #[z,.bool false],?_,z,rfl⟩;simp[execOp,hop,h1,Instr.typeAssert,run_underlying hu,run_typeInfo hi,hm,hok.1,hz]
    .simp at h
   .simp at h
  .rename_i t s e d hne he hu;obtain ⟨us,h1,h2⟩:=BP (bC hrel hp he);have hni:∀want,d≠ .interface want:=by
    intro want hd;subst hd;first|exact hne _ hu|exact hne _ rfl hu|exact hne _ _ _ _ he hu|exact hne _ rfl rfl|exact hne _ rfl
   split at h
   .rename_i ht;subst ht;have hrd:bq w (NN N0 w0.own ρ S.blks hv) s (s.mk us) ((sO e).eval ρ):=⟨us,by rw[Zz];exact h2,rfl⟩;cases ok with
    |true=>
     simp only[if_true,bQ] at h;subst h;refine ⟨rfl,rfl,.tuple #[s.mk us,.bool true],?_,⟨⟨[s.mk us,.bool true],rfl,⟨_,_,rfl,hrd,_,_,rfl,⟨[.bool true],rfl,by simp[Sh.mk,Sh.isAgg]⟩,rfl⟩⟩,?_⟩⟩
     .simp only[execOp,hop,h1,Instr.typeAssert];simp only[Sem.run_bind,run_underlying hu,Result.andThen_ok];cases d<;>first|(simp;done)|exact absurd rfl (hni _)
     .intro x hx vs;simp only[iH,List.not_mem_nil,or_false] at hx;rcases hx with rfl|rfl
      .exact Hy _ _ _
      .trivial
    |false=>
     simp only[rA,if_false,bQ] at h;subst h;refine ⟨rfl,rfl,s.mk us,?_,uj hrd (Hy _ _)⟩;simp only[execOp,hop,h1,Instr.typeAssert];simp only[Sem.run_bind,run_underlying hu,Result.andThen_ok];cases d<;>first|(simp;done)|exact absurd rfl (hni _)
   .rename_i ht;split at h
    .rename_i hok;simp only[aP] at hok;injection h with h;subst h;obtain ⟨z,hz⟩:=hzero hok.2;refine ⟨rfl,rfl,.tuple #[z,.bool false],?_,z,rfl⟩;simp only[execOp,hop,h1,Instr.typeAssert];simp only[Sem.run_bind,run_underlying hu,Result.andThen_ok];cases d<;>first|(simp[ht,hok.1,hz];done)|exact absurd rfl (hni _)
    .simp at h
  .rename_i e d he hu;have h1:=Nk (bC hrel hp he);split at h
   .rename_i hok;simp only[aP] at hok;injection h with h;subst h;obtain ⟨z,hz⟩:=hzero hok.2;refine ⟨rfl,rfl,.tuple #[z,.bool false],?_,z,rfl⟩;simp only[execOp,hop,h1,Instr.typeAssert];simp only[Sem.run_bind,run_underlying hu,Result.andThen_ok];cases d<;>(simp[hok.1,hz];done)
   .simp at h
  .simp at h
 .rename_i op xt x y yt hop;have e2:a.eval (.const .nilIface)= .nilIface:=rfl;split at h
  .rename_i t s e l he hu;injection h with h;subst h;obtain ⟨us,h1,h2⟩:=BP (bC hrel hp he);refine ⟨rfl,rfl,.bool false,?_,by rw[jr];rfl⟩;simp only[execOp,hop,h1,e2];simp[eqGuard,binOp,ZC hu]
  .rename_i t s e l he hu;injection h with h;subst h;obtain ⟨us,h1,h2⟩:=BP (bC hrel hp he);refine ⟨rfl,rfl,.bool true,?_,by rw[jr];rfl⟩;simp only[execOp,hop,h1,e2];simp[eqGuard,binOp,ZC hu]
  .rename_i e l he hu;injection h with h;subst h;have h1:=Nk (bC hrel hp he);refine ⟨rfl,rfl,.bool true,?_,by rw[jr];rfl⟩;simp only[execOp,hop,h1,e2];simp[eqGuard,binOp,aau hu]
  .rename_i e l he hu;injection h with h;subst h;have h1:=Nk (bC hrel hp he);refine ⟨rfl,rfl,.bool false,?_,by rw[jr];rfl⟩;simp only[execOp,hop,h1,e2];simp[eqGuard,binOp,aau hu]
  .simp at h
 .rename_i c x y hop;split at h
  .rename_i hc;have h1:=bC hrel hp hc;rw[jr] at h1;split at h
   .rename_i z hz;injection h with h;subst h;exact ⟨rfl,rfl,a.eval x,by simp[execOp,hop,h1,asBool,E.eval],bC hrel hp hz⟩
   .simp at h
  .rename_i hc;have h1:=bC hrel hp hc;rw[jr] at h1;split at h
   .rename_i z hz;injection h with h;subst h;exact ⟨rfl,rfl,a.eval y,by simp[execOp,hop,h1,asBool,E.eval],bC hrel hp hz⟩
   .simp at h
  .simp at h
 .simp at h
theorem aiF(h:Bz pc=true)(hp:aS ρ pc):False:=by
 unfold Bz at h;rw[List.any_eq_true] at h;obtain ⟨⟨e,b⟩,hm,hx⟩:=h;have:=hp _ hm;cases e<;>simp_all[E.eval]
theorem amu{out:Out}(hrel:aJ P N0 w0 ρ S hv a w)(hp:aS ρ pc)(h:fA P cfg o pc (S.ev P) S.rb S.nv=some out)(ho:dB P ρ S.nv out.obs):
  o.wp P a w (fun a' w'=>∃hv',aJ P N0 w0 ρ {tmps:=cO S.tmps o.dst ⟨pc,out.x⟩,blks:=aW out.cmds S.blks,nv:=S.nv+out.nv} hv' a' w') Q:=by
 unfold fA at h;split at h
 .rename_i hf;exact (aiF hf hp).elim
 .split at h
  .rename_i out' hx;injection h with h;subst h;obtain ⟨h1,h2,v,h3,h4⟩:=alo hrel hp hx ho;rw[h1];exact fin_step h3 hrel h4 hp
  .exact aly hrel hp h ho
end
section
variable{P:Program}{N0:Nat->Prop}{w0:Wb}{ρ:List C}{S:SS}{hv:Nat->Value}{a:Act}{w:World}
theorem aJ.write(h:aJ P N0 w0 ρ S hv a w){r:Nat}{lb lb':LB}(hr:S.blks[r]?=some ⟨lb,false,[]⟩)(hl:eG ⟨lb,false,[]⟩=true)(hl':eG ⟨lb',false,[]⟩=true){g:Nat}(hg:bH (hv r)=some g){w':World}
  (h1:w'.os=w.os) (h2:w'.tape=w.tape) (h3:w'.output=w.output) (hs:w'.heap.size=w.heap.size) (hk:∀k,k≠g->w'.heap[k]?=w.heap[k]?)
  (hle:iQ ρ S.blks (S.blks.set r ⟨lb',false,[]⟩) hv hv)
  (hok:(∀b,NN N0 w0.own ρ S.blks hv b->b<w.heap.size->w'.heap[b]?=w.heap[b]?/\NN N0 w0.own ρ (S.blks.set r ⟨lb',false,[]⟩) hv b)->
   oq w' w0.own (NN N0 w0.own ρ (S.blks.set r ⟨lb',false,[]⟩) hv) ρ (S.blks.set r ⟨lb',false,[]⟩) hv r lb'):
  aJ P N0 w0 ρ {S with blks:=S.blks.set r ⟨lb',false,[]⟩} hv a w':=by
 have hrl:r<S.blks.length:=(dF.1 hr).1;have hbg:=(h.lt hr hl (aR ρ) hg).2;have hkk:∀b,NN N0 w0.own ρ S.blks hv b->b<w.heap.size->w'.heap[b]?=w.heap[b]?/\NN N0 w0.own ρ (S.blks.set r ⟨lb',false,[]⟩) hv b:=by
  intro b hb _;refine ⟨hk b fun e=>hb.2 r _ hr hl rfl (aR ρ) (by rw[e];exact hg),hb.1,fun r' k hr' hl2 hf hp=>?_⟩;by_cases hrr:r'=r
  .subst hrr;exact hb.2 r' _ hr hl rfl (aR ρ)
  .rw[dN (fun e=>hrr e.symm)] at hr';exact hb.2 r' k hr' hl2 hf hp
 refine h.step hle (h.below.after h1 h2 h3 (by omega) fun k _ hn=>hk k fun e=>hn (by rw[e];exact hbg)) (by omega) hkk ?_ ?_
 .intro r' k hr' hp;by_cases hrr:r'=r
  .subst hrr;rw[zw hrl] at hr';injection hr' with hr';subst hr';exact hok hkk
  .rw[dN (fun e=>hrr e.symm)] at hr';by_cases hlk:eG k=true
   .exact (h.blks r' k hr' hp).le (by omega) hkk hle rfl fun g' hg'=>hk g' fun e=>by
     subst e;exact h.dist r r' _ k g' hr hr' (fun e=>hrr e.symm) hl hlk (aR ρ) hp hg hg'
   .obtain ⟨Gl,f2,p2⟩:=k;cases Gl with
    |none=>trivial
    |dead=>trivial
    |row s e=>exact absurd rfl hlk
    |box cs=>exact absurd rfl hlk
    |mp _ _ _=>exact absurd rfl hlk
    |sit _ _=>exact absurd rfl hlk
 .intro r1 r2 k1 k2 g' hr1 hr2 hne hl1 hl2 hp1 hp2;have back:∀(q:Nat) (k:aG),(S.blks.set r ⟨lb',false,[]⟩)[q]?=some k->eG k=true->aS ρ k.bM->∃k0,S.blks[q]?=some k0/\eG k0=true/\aS ρ k0.bM:=by
   intro q k hq hlk hpk;by_cases hqr:q=r
   .subst hqr;exact ⟨_,hr,hl,aR ρ⟩
   .rw[dN (fun e=>hqr e.symm)] at hq;exact ⟨k,hq,hlk,hpk⟩
  obtain ⟨k3,a1,a2,a3⟩:=back r1 k1 hr1 hl1 hp1;obtain ⟨k4,b1,b2,b3⟩:=back r2 k2 hr2 hl2 hp2;exact h.dist r1 r2 k3 k4 g' a1 b1 hne a2 b2 a3 b3
theorem aci{bs:List aG}{r:Nat}{s:Sh}{e e':E}{f:Bool}(hr:bs[r]?=some ⟨.row s e,f,[]⟩)(hl:(e.eval ρ).toList.length=(e'.eval ρ).toList.length):iQ ρ bs (bs.set r ⟨.row s e',false,[]⟩) hv hv:=by
 have hrl:r<bs.length:=(dF.1 hr).1;refine ⟨fun q hq=>⟨?_,rfl⟩,fun q s' e2 p hq h=>?_,fun q cs p hq h=>?_⟩
 .by_cases hqr:q=r
  .subst hqr;exact ⟨_,zw hrl,by simp⟩
  .obtain ⟨k,h1,h2⟩:=hq;exact ⟨k,by rw[dN (fun e=>hqr e.symm)];exact h1,h2⟩
 .by_cases hqr:q=r
  .subst hqr;simp[bV,hrl] at h;obtain ⟨rfl,rfl,rfl⟩:=h;exact ⟨e,by simp[bV,hr],hl⟩
  .unfold bV at h |-;rw[dN (fun e=>hqr e.symm)] at h;exact ⟨e2,h,rfl⟩
 .by_cases hqr:q=r
  .subst hqr;simp[dZ,hrl] at h
  .unfold dZ at h |-;rw[dN (fun e=>hqr e.symm)] at h;exact ⟨cs,h⟩
theorem adh{bs:List aG}{r:Nat}{cs cs':List SX}{f:Bool}(hr:bs[r]?=some ⟨.box cs,f,[]⟩):iQ ρ bs (bs.set r ⟨.box cs',false,[]⟩) hv hv:=by
 have hrl:r<bs.length:=(dF.1 hr).1;refine ⟨fun q hq=>⟨?_,rfl⟩,fun q s' e2 p hq h=>?_,fun q cs2 p hq h=>?_⟩
 .by_cases hqr:q=r
  .subst hqr;exact ⟨_,zw hrl,by simp⟩
  .obtain ⟨k,h1,h2⟩:=hq;exact ⟨k,by rw[dN (fun e=>hqr e.symm)];exact h1,h2⟩
 .by_cases hqr:q=r
  .subst hqr;simp[bV,hrl] at h
  .unfold bV at h |-;rw[dN (fun e=>hqr e.symm)] at h;exact ⟨e2,h,rfl⟩
 .by_cases hqr:q=r
  .subst hqr;simp[dZ,hrl] at h;obtain ⟨rfl,rfl⟩:=h;exact ⟨cs,by simp[dZ,hr]⟩
  .unfold dZ at h |-;rw[dN (fun e=>hqr e.symm)] at h;exact ⟨cs2,h⟩
theorem Xe{t:TypeId}{s:Sh}(hf:iB P t s=true){us:List Value}(hl:us.length=s.size)(h1:∀u∈us,u.oneCell'=true/\∀cs,u≠ .agg cs){g off:Nat}{cur:Array Value}{ty:TypeId}
  (hg:w.heap[g]?=some (.cells cur ty (0,0))) (hle:off+us.length<=cur.size):
  (Instr.storeAt t (.pointer (some ⟨g,off,none⟩)) (s.mk us)).run P w= .ok () (w.setRow g (cur.toList.take off++us++cur.toList.drop (off+us.length)).toArray):=by
 have hc:=Ip hl fun u hu=>(h1 u hu).2;have hsz:(s.mk us).cells.size=s.size:=by rw[<-Array.length_toList,hc,hl]
 have hst:=run_storeCells_at P g off ty us 0 cur w hg (by simpa using hle) (fun v hv=>(h1 v hv).1);simp only[Nat.add_zero] at hst;simp[Instr.storeAt,Instr.sureAddr,storeVar,run_sizeOf hf,hsz,hc,hst]
theorem ab1{N:Nat->Prop}:∀ {s:Sh} {j:Nat} {vs us:List Value} {c x:C} {s':Sh} {off:Nat},Rd w N s vs c->s.bZ j=some (s',off)->Rd w N s' us x->
  Rd w N s (vs.take off++(us++vs.drop (off+s'.size))) (c.mP j x)
 | .pair a b,0,vs,us,c,x,s',off,h,hf,hu=>by
  simp[Sh.bZ] at hf;obtain ⟨rfl,rfl⟩:=hf;obtain ⟨h0,va,vb,rfl,h1,h2⟩:=h;refine ⟨h0,us,vb,?_,by simpa [C.mP,C.hd] using hu,h2.tX h0 (by simp[C.mP,C.tl])⟩;simp[<-h1.length]
 | .pair a b,j+1,vs,us,c,x,s',off,h,hf,hu=>by
  simp[Sh.bZ] at hf;obtain ⟨s1,o',hf,rfl,rfl⟩:=hf;obtain ⟨h0,va,vb,rfl,h1,h2⟩:=h;have ih:=ab1 h2 hf hu;refine ⟨h0,va,vb.take o'++(us++vb.drop (o'+s1.size)),?_,by simpa [C.mP,C.hd] using h1,ih.tX h0 (by simp[C.mP,C.tl])⟩;rw[<-h1.length,oD,List.take_append,wu];simp;rw[jB (by omega),sV (by omega)];simp
 | .int _,_,_,_,_,_,_,_,_,hf,_| .bool,_,_,_,_,_,_,_,_,hf,_| .str,_,_,_,_,_,_,_,_,hf,_| .sl _,_,_,_,_,_,_,_,_,hf,_| .unit,_,_,_,_,_,_,_,_,hf,_=>by simp[Sh.bZ] at hf
theorem rR(f:List Nat)(bs:List aG):jN f bs=aW (f.map .aV) bs:=by
 unfold jN aW;rw[List.foldl_map];rfl
theorem Ho{r:Nat}:∀(f:List Nat) (bs:List aG),r∉f->(aW (f.map .aV) bs)[r]?=bs[r]?
 | [],_,_=>rfl
 |q::f,bs,h=>by
  have h1:=Ho (r:=r) f (bs.modify q fun b=> {b with fI:=true}) (fun hm=>h (List.mem_cons_of_mem _ hm));have h2:(bs.modify q fun b=> {b with fI:=true})[r]?=bs[r]?:=by
   have hne:¬q=r:=by rintro rfl;exact h (by simp)
   simp[hne]
  exact h1.trans h2
theorem anz{B:Nat->Prop}{et:TypeId}{size:Nat}{v:Value}{n:Nat}{xs:List Value}{g:Nat}(h:w.iA B et size v n xs)(hg:bH v=some g):
  ∃cap cur,v= .slice (some ⟨g,0,none⟩) n cap/\B g/\w.heap[g]?=some (.cells cur et (0,0))/\n<=cap/\cap<=maxLen/\cur.size=cap*size/\cur.toList.take (n*size)=xs:=by
 obtain ⟨_,h2⟩:=h;rcases h2 with ⟨h2,_⟩|⟨g',cap,cur,h3,h4⟩
 .rw[h2] at hg;cases hg
 .rw[h3] at hg;injection hg with hg;subst hg;exact ⟨cap,cur,h3,h4⟩
theorem Xd{g:Nat}{cs:Array Value}{k:Nat}(h:k≠g):(w.setRow g cs).heap[k]?=w.heap[k]?:=setRow_other w g k cs h
theorem ane(cur us:List Value)(off n:Nat)(h:off+us.length<=n)(hn:n<=cur.length):
  (cur.take off++us++cur.drop (off+us.length)).take n=(cur.take n).take off++(us++(cur.take n).drop (off+us.length)):=by
 have hX:(cur.take off++us).length=off+us.length:=by simp;omega
 rw[List.take_append,jB (l:=cur.take off++us) (by rw[hX];exact h),hX,List.take_take,Nat.min_eq_left (by omega),List.drop_take,dI]
theorem Y6(h:aJ P N0 w0 ρ S hv a w){r:Nat}{es:Sh}{e e':E}(hr:S.blks[r]?=some ⟨.row es e,false,[]⟩){g:Nat}(hg:bH (hv r)=some g){off:Nat}{us:List Value}
  (hl:(e.eval ρ).toList.length=(e'.eval ρ).toList.length)
  (hxs:∀xs,bF w (NN N0 w0.own ρ S.blks hv) es xs (e.eval ρ).toList->xs.length=(e.eval ρ).toList.length*es.size->off+us.length<=xs.length/\
   bF w (NN N0 w0.own ρ S.blks hv) es (xs.take off++(us++xs.drop (off+us.length))) (e'.eval ρ).toList):
  ∃cur ty,w.heap[g]?=some (.cells cur ty (0,0))/\off+us.length<=cur.size/\
   aJ P N0 w0 ρ {S with blks:=S.blks.set r ⟨.row es e',false,[]⟩} hv a (w.setRow g (cur.toList.take off++us++cur.toList.drop (off+us.length)).toArray):=by
 obtain ⟨et,xs,hown,hrd,hsz⟩:=h.rows.row r es e [] (by simp[bV,hr]) (aR ρ);obtain ⟨cap,cur,h1,h2,h3,h4,h5,h6,h7⟩:=anz hown hg;obtain ⟨g1,g2⟩:=hxs xs hrd hrd.length;have hcl:(e.eval ρ).toList.length*es.size<=cur.size:=by rw[h6];exact Nat.mul_le_mul_right _ h4
 have hxl:xs.length=(e.eval ρ).toList.length*es.size:=hrd.length;refine ⟨cur,et,h3,by omega,?_⟩;refine h.write hr rfl rfl hg rfl rfl rfl (by simp) (fun k hk=>Xd hk) (aci hr hl) fun hkk=>?_;refine ⟨et,xs.take off++(us++xs.drop (off+us.length)),⟨?_,.inr ⟨g,cap,_,?_,h2,setRow_heap w g cur _ et _ h3,by omega,h5,?_,?_⟩⟩,g2.mono (by simp) hkk,hsz⟩
 .rw[<-hl,<-hxl];simp;omega
 .rw[<-hl];exact h1
 .simp only[List.size_toArray,bg,gD,jV,Array.length_toList];omega
 .rw[<-hl];simp only[];rw[ane cur.toList us off _ (by omega) (by simpa using hcl),h7]
theorem Te(e i x:E):(((E.set e i x).eval ρ)).toList.length=(e.eval ρ).toList.length:=by simp[E.eval]
end
section
variable{P:Program}{cfg:dA}{N0:Nat->Prop}{w0:Wb}{ρ:List C}{S:SS}{hv:Nat->Value}{a:Act}{w:World}{o:Oper}{Q:Exit->Act->World->Prop}
theorem Nh{w':World}{hv':Nat->Value}{bs':List aG}(hr:(execOp a.eval o).run P w= .ok .skip w')(hrel:aJ P N0 w0 ρ {S with blks:=bs'} hv' a w'):
  o.wp P a w (fun a' w'=>∃hv',aJ P N0 w0 ρ {S with tmps:=cO S.tmps o.dst ⟨[],.none⟩,blks:=bs'} hv' a' w') Q:=by
 unfold Oper.wp;rw[hr];exact ⟨hv',hrel.put o.dst [] .none undef (fun _=>trivial) (fun _=>rfl)⟩
theorem agC(hrel:aJ P N0 w0 ρ S hv a w){t:TypeId}{ad x:Operand}(hop:o.op= .store t ad x){r:Nat}{es:Sh}{e i:E}{fo:Nat}{s:Sh}{bZ:Option Nat}{y:SX}{bs':List aG}
  (hr:S.blks[r]?=some ⟨.row es e,false,[]⟩) (hf:iB P t s=true) (h:DK S.blks r es e i fo s bZ y=some bs')
  (ha:bB w (NN N0 w0.own ρ S.blks hv) ρ S.blks hv (.ref r i fo s bZ) (a.eval ad)) (hx:bB w (NN N0 w0.own ρ S.blks hv) ρ S.blks hv y (a.eval x)):
  o.wp P a w (fun a' w'=>∃hv',aJ P N0 w0 ρ {S with tmps:=cO S.tmps o.dst ⟨[],.none⟩,blks:=bs'} hv' a' w') Q:=by
 unfold DK at h;split at h
 .rename_i s' ex f hd;split at h
  .rename_i hok;simp only[aP,bR,Bool.not_eq_true'] at hok;obtain ⟨rfl,hnf⟩:=hok;have hnf:r∉f:=by simpa using hnf
   obtain ⟨us,d1,d2,d3⟩:=uZ hrel.rows (aR ρ) hd hx;have hfz:=hrel.AB f;rw[<-rR] at hfz;have hr2:(jN f S.blks)[r]?=some ⟨.row es e,false,[]⟩:=by rw[rR,Ho f _ hnf];exact hr
   obtain ⟨hkn,hrow,_⟩:=ha;obtain ⟨oi,g,ho,hlt,hg,hp,FX⟩:=hrow es e [] (by simp[bV,hr]) (aR ρ);have m1:∀b,NF (NN N0 w0.own ρ S.blks hv) hv f b->b<w.heap.size->w.heap[b]?=w.heap[b]?/\NN N0 w0.own ρ (jN f S.blks) hv b:=fun b hb _=>⟨rfl,by rw[rR];exact hrel.nf hb (zn (aR ρ) hd)⟩;have d1':=d1.mono (aI _) m1;have hone:=xM d1;have fin:∀e' off,off=oi*es.size+fo->(e.eval ρ).toList.length=(e'.eval ρ).toList.length->
     (∀xs,bF w (NN N0 w0.own ρ (jN f S.blks) hv) es xs (e.eval ρ).toList->xs.length=(e.eval ρ).toList.length*es.size->off+us.length<=xs.length/\
      bF w (NN N0 w0.own ρ (jN f S.blks) hv) es (xs.take off++(us++xs.drop (off+us.length))) (e'.eval ρ).toList)->bs'=(jN f S.blks).set r ⟨.row es e',false,[]⟩->
     o.wp P a w (fun a' w'=>∃hv',aJ P N0 w0 ρ {S with tmps:=cO S.tmps o.dst ⟨[],.none⟩,blks:=bs'} hv' a' w') Q:=by
    intro e' off hoff hl hxs hbs;obtain ⟨cur,ty,q1,q2,q3⟩:=Y6 hfz hr2 hg hl hxs;subst hbs;refine Nh (S:=S) ?_ q3;have hst:=Xe (P:=P) hf d1.length hone q1 q2;rw[hoff] at hst;simp[execOp,hop,hp,d2,hst,hoff]
   obtain ⟨c,hc⟩:∃c,(e.eval ρ).toList[oi]?=some c:=⟨_,iK hlt⟩;have hmul:(oi+1)*es.size<=(e.eval ρ).toList.length*es.size:=Nat.mul_le_mul_right _ hlt;rw[Nat.add_mul,Nat.one_mul] at hmul;split at h
   .obtain ⟨rfl,rfl⟩:=FX;simp at h;subst h;refine fin (.set e i ex) (oi*s.size) (by simp) (Te e i ex).symm (fun xs hxs hxl=>⟨by rw[d1.length];omega,?_⟩) rfl;have:=hxs.set hlt d1';rw[d1.length];simpa [E.eval,ho,Nat.add_mul] using this
   .rename_i j;split at h
    .rename_i hj;simp at h;subst h;refine fin (.set e i (.mP j (.idx e i) ex)) (oi*es.size+fo) rfl (Te e i _).symm (fun xs hxs hxl=>?_) rfl;have hat:=hxs.at_ hc;obtain ⟨_,f2,_⟩:=Fe hat hj;have hfs:=ab1 hat hj d1';have hel:((xs.drop (oi*es.size)).take es.size).length=es.size:=by simp;omega
     have hb:fo+s.size<=es.size:=by rw[hel] at f2;exact f2
     refine ⟨by rw[d1.length];omega,?_⟩;have:=hxs.set hlt hfs;simp only[E.eval,ho,bO,C.kU,List.getD,hc,yL];rw[d1.length];have e1:xs.take (oi*es.size+fo)++(us++xs.drop (oi*es.size+fo+s.size))=
       xs.take (oi*es.size)++((((xs.drop (oi*es.size)).take es.size).take fo++(us++((xs.drop (oi*es.size)).take es.size).drop (fo+s.size)))++xs.drop ((oi+1)*es.size)):=by
      rw[List.take_take,Nat.min_eq_left (by omega),List.drop_take,rC];rw[List.take_add];simp only[dI];congr 3
      have e2:xs.drop (oi*es.size+fo+s.size)=(xs.drop (oi*es.size+(fo+s.size))).take (es.size-(fo+s.size))++(xs.drop (oi*es.size+(fo+s.size))).drop (es.size-(fo+s.size)):=by
       rw[zu,oD]
      rw[e2,rC];congr 2
      rw[Nat.add_mul,Nat.one_mul];omega
     rw[e1];exact this
    .rename_i hne;exact absurd FX hne
  .simp at h
 .simp at h
theorem Ei{N:Nat->Prop}{bs:List aG}:∀ {l m:List SX} {us vs:List Value},dY w N ρ bs hv l us->dY w N ρ bs hv m vs->dY w N ρ bs hv (l++m) (us++vs)
 | [],_,_,_,h,h'=>by simp only[dY] at h;subst h;simpa using h'
 |_::_,_,_,_,⟨v,r,h1,h2,h3⟩,h'=>⟨v,r++_,by rw[h1];rfl,h2,Ei h3 h'⟩
theorem MX{N:Nat->Prop}{bs:List aG}:∀ {cs:List SX} {vs:List Value} (j:Nat),dY w N ρ bs hv cs vs->dY w N ρ bs hv (cs.take j) (vs.take j)
 | [],_,j,h=>by simp only[dY] at h;subst h;simp[dY]
 |_::_,_,0,h=>by simp[dY]
 |_::_,_,j+1,⟨v,r,h1,h2,h3⟩=>by
  subst h1;exact ⟨v,_,rfl,h2,MX j h3⟩
theorem agD(hrel:aJ P N0 w0 ρ S hv a w){t:TypeId}{ad x:Operand}(hop:o.op= .store t ad x){r:Nat}{cs:List SX}{i:E}{fo:Nat}{s:Sh}{bZ:Option Nat}{y:SX}{bs':List aG}
  (hr:S.blks[r]?=some ⟨.box cs,false,[]⟩) (hf:iB P t s=true) (h:DN S.blks r cs fo s y=some bs')
  (ha:bB w (NN N0 w0.own ρ S.blks hv) ρ S.blks hv (.ref r i fo s bZ) (a.eval ad)) (hx:bB w (NN N0 w0.own ρ S.blks hv) ρ S.blks hv y (a.eval x)):
  o.wp P a w (fun a' w'=>∃hv',aJ P N0 w0 ρ {S with tmps:=cO S.tmps o.dst ⟨[],.none⟩,blks:=bs'} hv' a' w') Q:=by
 obtain ⟨hkn,_,oC⟩:=ha;obtain ⟨g,hg,hp⟩:=oC cs [] (by simp[dZ,hr]) (aR ρ);obtain ⟨g',bt,arr,h1,h2,h3,h4⟩:=hrel.boxes r cs [] (by simp[dZ,hr]) (aR ρ);rw[h1] at hg;injection hg with hg;subst hg;have hal:=XU h4;have hgb:bH (hv r)=some g':=by rw[h1];rfl
 have fin:∀cs' us,a.eval x=s.mk us->us.length=s.size->(∀u∈us,u.oneCell'=true/\∀cs,u≠ .agg cs)->fo+s.size<=cs.length->
   dY w (NN N0 w0.own ρ S.blks hv) ρ S.blks hv cs' (arr.toList.take fo++us++arr.toList.drop (fo+us.length))->bs'=S.blks.set r ⟨.box cs',false,[]⟩->
   o.wp P a w (fun a' w'=>∃hv',aJ P N0 w0 ρ {S with tmps:=cO S.tmps o.dst ⟨[],.none⟩,blks:=bs'} hv' a' w') Q:=by
  intro cs' us hev hl hone hle hrd hbs;subst hbs;have hle2:fo+us.length<=arr.size:=by rw[hl];simp at hal;omega
  have hst:=Xe (P:=P) hf hl hone h3 hle2;refine Nh (S:=S) (hv':=hv) (w':=w.setRow g' (arr.toList.take fo++us++arr.toList.drop (fo+us.length)).toArray) (by simp[execOp,hop,hp,hev,hst]) ?_;refine hrel.write hr rfl rfl hgb rfl rfl rfl (by simp) (fun k hk=>Xd hk) (adh hr) fun hkk=>?_;exact ⟨g',bt,_,h1,h2,setRow_heap w g' arr _ bt _ h3,by simpa using hrd.le (by simp) hkk (adh hr)⟩
 unfold DN at h;split at h
 .rename_i s' ex;split at h
  .rename_i hok;simp only[aP,bR] at hok;obtain ⟨rfl,hle⟩:=hok;simp at h;obtain ⟨us,d1,d2,d3⟩:=hx;refine fin _ us d2 d1.length (xM d1) hle ?_ h.symm;rw[dI,d1.length];exact Ei (MX fo h4) (Ei (DF d1 d3) (Ie _ h4))
  .simp at h
 .rename_i r' n;split at h
  .rename_i es e hro;split at h
   .rename_i hok;simp only[aP,bR] at hok;obtain ⟨rfl,hle⟩:=hok;simp at h;obtain ⟨p,hin,hpp⟩:=oH (aR ρ) hro;obtain ⟨hv1,_⟩:=hx.2 _ _ p hin hpp;obtain ⟨et,xs,hown,_,_⟩:=hrel.rows.row r' _ _ p hin hpp;have hone:(a.eval x).oneCell'=true/\∀cs,a.eval x≠ .agg cs:=by
     rw[hv1];rcases pQ hown with ⟨h5,_,_⟩|⟨g,cap,h5,_⟩<;>rw[h5]<;>simp[Value.oneCell']
    refine fin _ [a.eval x] (by simp[Sh.mk,Sh.isAgg]) rfl (by simpa using hone) (by simp[Sh.size];omega) ?_ h.symm;have e1:cs.set fo (.full r' n)=cs.take fo++([.full r' n]++cs.drop (fo+1)):=by rw[List.set_eq_take_append_cons_drop,if_pos hle];rfl
    rw[e1,dI];exact Ei (MX fo h4) (Ei ⟨_,[],rfl,hx,rfl⟩ (Ie _ h4))
   .simp at h
  .simp at h
 .simp at h
theorem ajv(hrel:aJ P N0 w0 ρ S hv a w){t:TypeId}{ad x:Operand}(hop:o.op= .store t ad x){bs':List aG}(h:EH P S.blks t (S.ev P [] ad 0) (S.ev P [] x t)=some bs'):
  o.wp P a w (fun a' w'=>∃hv',aJ P N0 w0 ρ {S with tmps:=cO S.tmps o.dst ⟨[],.none⟩,blks:=bs'} hv' a' w') Q:=by
 unfold EH at h;split at h
 .rename_i r i fo s bZ y had dO;split at h
  .rename_i hf;split at h
   .rename_i es e hb;exact agC hrel hop hb hf h (bC hrel (aR ρ) had) (bC hrel (aR ρ) dO)
   .rename_i cs hb;exact agD hrel hop hb hf h (bC hrel (aR ρ) had) (bC hrel (aR ρ) dO)
   .simp at h
  .simp at h
 .simp at h
theorem abn{x:SX}{v:Value}{w':World}{hv':Nat->Value}{bs':List aG}(hr:(execOp a.eval o).run P w= .ok (.value v) w')(hrel:aJ P N0 w0 ρ {S with blks:=bs'} hv' a w')
  (hx:bB w' (NN N0 w0.own ρ bs' hv') ρ bs' hv' x v):
  o.wp P a w (fun a' w'=>∃hv',aJ P N0 w0 ρ {S with tmps:=cO S.tmps o.dst ⟨[],x⟩,blks:=bs'} hv' a' w') Q:=by
 unfold Oper.wp;rw[hr];exact ⟨hv',hrel.put o.dst [] x v (fun _=>hx) (fun h=>absurd (aR ρ) h)⟩
theorem acr{bs:List aG}{r:Nat}{lb lb':LB}{f:Bool}(hr:bs[r]?=some ⟨lb,f,[]⟩)(h1:(∃k s e,lb'= .mp k s e)\/∃s p,lb'= .sit s p):iQ ρ bs (bs.set r ⟨lb',false,[]⟩) hv hv:=by
 have hrl:r<bs.length:=(dF.1 hr).1;refine ⟨fun q hq=>⟨?_,rfl⟩,fun q s' e2 p hq h=>?_,fun q cs p hq h=>?_⟩
 .by_cases hqr:q=r
  .subst hqr;exact ⟨_,zw hrl,by rcases h1 with ⟨_,_,_,rfl⟩|⟨_,_,rfl⟩<;>simp⟩
  .obtain ⟨k,h1,h2⟩:=hq;exact ⟨k,by rw[dN (fun e=>hqr e.symm)];exact h1,h2⟩
 .by_cases hqr:q=r
  .subst hqr;rcases h1 with ⟨_,_,_,rfl⟩|⟨_,_,rfl⟩<;>simp[bV,hrl] at h
  .unfold bV at h |-;rw[dN (fun e=>hqr e.symm)] at h;exact ⟨e2,h,rfl⟩
 .by_cases hqr:q=r
  .subst hqr;rcases h1 with ⟨_,_,_,rfl⟩|⟨_,_,rfl⟩<;>simp[dZ,hrl] at h
  .unfold dZ at h |-;rw[dN (fun e=>hqr e.symm)] at h;exact ⟨cs,h⟩
theorem abN{bs:List aG}{r:Nat}:iQ ρ bs (bs.set r ⟨.dead,false,[]⟩) hv hv:=by
 refine ⟨fun q hq=>⟨?_,rfl⟩,fun q s' e2 p hq h=>?_,fun q cs p hq h=>?_⟩
 .obtain ⟨k,h1,h2⟩:=hq;by_cases hqr:q=r
  .subst hqr;have hrl:=(dF.1 h1).1;exact ⟨_,zw hrl,by simp⟩
  .exact ⟨k,by rw[dN (fun e=>hqr e.symm)];exact h1,h2⟩
 .obtain ⟨k,h1,h2⟩:=hq;by_cases hqr:q=r
  .subst hqr;have hrl:=(dF.1 h1).1;simp[bV,hrl] at h
  .unfold bV at h |-;rw[dN (fun e=>hqr e.symm)] at h;exact ⟨e2,h,rfl⟩
 .obtain ⟨k,h1,h2⟩:=hq;by_cases hqr:q=r
  .subst hqr;have hrl:=(dF.1 h1).1;simp[dZ,hrl] at h
  .unfold dZ at h |-;rw[dN (fun e=>hqr e.symm)] at h;exact ⟨cs,h⟩
theorem Yq{α:Type}(a:Array α)(g k:Nat)(f:α->α):(a.modify g f)[k]?=if g=k then a[k]?.map f else a[k]?:=Array.getElem?_modify
theorem ao7{a:Addr}{n:Nat}:(w.freeze a n).os=w.os:=by unfold World.freeze;split<;>rfl
theorem amE{a:Addr}{n:Nat}:(w.freeze a n).tape=w.tape:=by unfold World.freeze;split<;>rfl
theorem akv{a:Addr}{n:Nat}:(w.freeze a n).output=w.output:=by unfold World.freeze;split<;>rfl
theorem ME{a:Addr}{n:Nat}:(w.freeze a n).heap.size=w.heap.size:=by unfold World.freeze;split<;>simp
theorem Yr{g k o n:Nat}(h:k≠g):(w.freeze ⟨g,o,none⟩ n).heap[k]?=w.heap[k]?:=by
 unfold World.freeze;split
 .rfl
 .simp only[];rw[Yq,if_neg (fun e=>h e.symm)]
theorem amF{g:Nat}{cur:Array Value}{et:TypeId}(hg:w.heap[g]?=some (.cells cur et (0,0))):(w.freeze ⟨g,cur.size,none⟩ 1).heap[g]?=some (.cells cur et (cur.size,cur.size+1)):=by
 unfold World.freeze;rw[if_neg (by decide)];simp only[];rw[Yq,if_pos rfl,hg];simp
theorem run_mark{P:Program}{t e et:TypeId}{g n c:Nat}{cur:Array Value}(ht:P.underlying t=some (.slice e))(he:P.underlying e=some (.int .u8))(hg:w.heap[g]?=some (.cells cur et (0,0))):
  (convert t t (.slice (some ⟨g,0,none⟩) n c)).run P w= .ok (.slice (some ⟨g,0,none⟩) n c) (w.freeze ⟨g,cur.size,none⟩ 1):=by
 have hsh:w.shape? g=some (et,cur.size):=by simp[World.shape?,hg]
 simp[convert,run_underlying ht,run_underlying he,markStringish,hsh]
theorem akw(hrel:aJ P N0 w0 ρ S hv a w){src:TypeId}{x:Operand}(hop:o.op= .convert src src x){s:Sh}{e:E}{r:Nat}(h:yh P S.blks src (S.ev P [] x src)=some (s,e,r)):
  o.wp P a w (fun a' w'=>∃hv',aJ P N0 w0 ρ {S with tmps:=cO S.tmps o.dst ⟨[],.dat (.sl s) e⟩,blks:=S.blks.set r ⟨.dead,false,[]⟩} hv' a' w') Q:=by
 unfold yh at h;split at h
 .rename_i et r' n ht hx;split at h
  .rename_i s' e1 e2 hu hr;simp only[bQ,fq] at h;obtain ⟨rfl,rfl,rfl⟩:=h;generalize he':E.cons e1 e2=e' at*;have hpos:(e'.eval ρ).toList.length≠0:=by rw[<-he'];simp[E.eval,C.toList]
   have hrow:S.blks[r']?=some ⟨.row s' e',false,[]⟩:=by
    unfold ownRow at hr;split at hr
    .rename_i hb;simp at hr;obtain ⟨rfl,rfl⟩:=hr;exact hb
    .simp at hr
   have hin:bV S.blks r'=some (s',e',[]):=by simp[bV,hrow]
   obtain ⟨hkn,hx2⟩:=bC hrel (aR ρ) hx;obtain ⟨hv1,_⟩:=hx2 _ _ _ hin (aR ρ);obtain ⟨dV,xs,hown,hrd,hsz⟩:=hrel.rows.row r' s' e' [] hin (aR ρ);have hel:=u7 ht;obtain ⟨hxl,hown2⟩:=hown;have fin:∀(w':World),(convert src src (a.eval x)).run P w= .ok (a.eval x) w'->w'.os=w.os->w'.tape=w.tape->w'.output=w.output->w'.heap.size=w.heap.size->(∀k,bH (hv r')≠some k->w'.heap[k]?=w.heap[k]?)->
     Rd w' (NN N0 w0.own ρ (S.blks.set r' ⟨.dead,false,[]⟩) hv) (.sl s') [a.eval x] (e'.eval ρ)->
     o.wp P a w (fun a' w'=>∃hv',aJ P N0 w0 ρ {S with tmps:=cO S.tmps o.dst ⟨[],.dat (.sl s') e'⟩,blks:=S.blks.set r' ⟨.dead,false,[]⟩} hv' a' w') Q:=by
    intro w' hrun h1 h2 h3 h4 h5 h6;have hkk:∀b,NN N0 w0.own ρ S.blks hv b->b<w.heap.size->w'.heap[b]?=w.heap[b]?/\NN N0 w0.own ρ (S.blks.set r' ⟨.dead,false,[]⟩) hv b:=by
     intro b hb _;refine ⟨h5 b (hb.2 r' _ hrow rfl rfl (aR ρ)),hb.1,fun q k hq hl hf hp=>?_⟩;by_cases hqr:q=r'
     .subst hqr;have hrl:=(dF.1 hrow).1;rw[zw hrl] at hq;injection hq with hq;subst hq;cases hl
     .rw[dN (fun e=>hqr e.symm)] at hq;exact hb.2 q k hq hl hf hp
    refine abn (w':=w') (v:=a.eval x) ?_ (hrel.step (hv':=hv) abN (hrel.below.after h1 h2 h3 (by omega) fun k hk hn=>h5 k fun hg=>hn (hrel.lt hrow rfl (aR ρ) hg).2) (by omega) hkk ?_ ?_) ⟨[a.eval x],h6,by simp[Sh.mk,Sh.isAgg],by rw[<-he'];exact LQ s' (.cons e1 e2) _⟩
    .simp only[execOp,hop];rw[Sem.run_bind,hrun];rfl
    .intro q k hq hp;by_cases hqr:q=r'
     .subst hqr;have hrl:=(dF.1 hrow).1;rw[zw hrl] at hq;injection hq with hq;subst hq;trivial
     .rw[dN (fun e=>hqr e.symm)] at hq;by_cases hl:eG k=true
      .exact (hrel.blks q k hq hp).le (by omega) hkk abN rfl fun g hg=>h5 g fun hg2=>hrel.dist q r' k _ g hq hrow hqr hl rfl hp (aR ρ) hg hg2
      .obtain ⟨lb,f,p⟩:=k;cases lb with
       |none=>trivial
       |dead=>trivial
       |row s e=>exact absurd rfl hl
       |box cs=>exact absurd rfl hl
       |mp _ _ _=>exact absurd rfl hl
       |sit _ _=>exact absurd rfl hl
    .intro q1 q2 k1 k2 g hq1 hq2 hne hl1 hl2 hp1 hp2 hg1 hg2;have back:∀(q:Nat) (k:aG),(S.blks.set r' ⟨.dead,false,[]⟩)[q]?=some k->eG k=true->S.blks[q]?=some k:=by
      intro q k hq hlk;by_cases hqr:q=r'
      .subst hqr;have hrl:=(dF.1 hrow).1;rw[zw hrl] at hq;injection hq with hq;subst hq;cases hlk
      .rwa[dN (fun e=>hqr e.symm)] at hq
     exact hrel.dist q1 q2 k1 k2 g (back q1 k1 hq1 hl1) (back q2 k2 hq2 hl2) hne hl1 hl2 hp1 hp2 hg1 hg2
   rcases hown2 with ⟨hnil,hzero⟩|⟨g,cap,cur,hvv,hB,hg,hle,hcm,hcs,htk⟩
   .exact absurd hzero hpos
   .have hrow':=amF (w:=w) (cur:=cur) (et:=dV) hg;refine fin (w.freeze ⟨g,cur.size,none⟩ 1) ?_ (ao7 ..) (amE ..) (akv ..) (ME ..) (fun k hk=>Yr fun e=>hk (by rw[hvv,e];rfl)) ?_
    .rw[hv1,hvv];exact run_mark hel hu hg
    .rw[hv1,hvv];refine ⟨some ⟨g,0,none⟩,cap,rfl,hle,hcm,fun _=>⟨g,0,rfl,⟨.inr hB,fun q k hq hl hf hp hgk=>?_⟩,?_,qR.of_row (hrd.mono (by rw[ME];exact aI _) ?_) ?_⟩⟩
     .by_cases hqr:q=r'
      .subst hqr;have hrl:=(dF.1 hrow).1;rw[zw hrl] at hq;injection hq with hq;subst hq;cases hl
      .rw[dN (fun e=>hqr e.symm)] at hq;exact hrel.dist q r' k _ g hq hrow hqr hl rfl hp (aR ρ) hgk (by rw[hvv];rfl)
     .rw[ME];exact (fu.1 hg).1
     .intro b hb _;refine ⟨Yr fun e=>hb.2 r' _ hrow rfl rfl (aR ρ) (by rw[hvv,e];rfl),hb.1,fun q k hq hl hf hp=>?_⟩;by_cases hqr:q=r'
      .subst hqr;have hrl:=(dF.1 hrow).1;rw[zw hrl] at hq;injection hq with hq;subst hq;cases hl
      .rw[dN (fun e=>hqr e.symm)] at hq;exact hb.2 q k hq hl hf hp
     .intro j u hu;rw[iI,cell_of_row _ g j cur dV _ hrow'];rw[<-htk,mR] at hu;split at hu
      .simpa using hu
      .cases hu
  .simp at h
 .simp at h
theorem akr(hrel:aJ P N0 w0 ρ S hv a w){t:TypeId}{m k x:Operand}(hop:o.op= .mapUpdate t m k x){r:Nat}{b:aG}(h:yg P S.blks t (S.ev P [] m t) (nU (S.ev P [] k 0)) (S.ev P [] x 0)=some (r,b)):
  o.wp P a w (fun a' w'=>∃hv',aJ P N0 w0 ρ {S with tmps:=cO S.tmps o.dst ⟨[],.none⟩,blks:=S.blks.set r b} hv' a' w') Q:=by
 unfold yg at h;split at h
 .rename_i kk et r' k' ek s' ex ht hm hk hx;split at h
  .rename_i Gm s e hb;split at h
   .rename_i hok;simp only[aP,bR,Bool.not_eq_true'] at hok;obtain ⟨⟨⟨rfl,rfl⟩,rfl⟩,hag⟩:=hok;simp only[bQ,fq] at h;obtain ⟨rfl,rfl⟩:=h;obtain ⟨hkn,hv1⟩:=bC hrel (aR ρ) hm;obtain ⟨g,l,h1,h2,h3,h4⟩:=hrel.blks r' _ hb (aR ρ);obtain ⟨us,d1,d2,_⟩:=bC hrel (aR ρ) hx;have hkv:=Bt hrel (aR ρ) hk;obtain ⟨kt,hu1,hu2⟩:=Zi ht;have hus:us=[a.eval x]:=by
     have hl:=d1.length;have hsz:s.size=1:=by cases s<;>first|rfl|cases hag
     rw[hsz] at hl;match us,hl with
     | [u],_=>rw[d2,abd hag]
    subst hus;obtain ⟨ob,g1,g2⟩:=h3.anq (P:=P) hu1 hu2 (ek.eval ρ).toInt (a.eval x);have hgb:bH (hv r')=some g:=by rw[h1];rfl
    refine Nh (S:=S) (hv':=hv) (w':=w.putObj g ob) ?_ ?_
    .simp only[execOp,hop,hv1,h1,hkv];rw[Sem.run_bind,g1];rfl
    .refine hrel.write hb rfl rfl hgb rfl rfl rfl (by simp) (fun k hk=>World.putObj_heap_other hk) (acr hb (.inl ⟨_,_,_,rfl⟩)) fun hkk=>?_;refine ⟨g,_,h1,h2,g2,?_⟩;have hm1:∀ {v:Value} {d:C},Rd w (NN N0 w0.own ρ S.blks hv) s [v] d->Rd (w.putObj g ob) (NN N0 w0.own ρ (S.blks.set r' ⟨.mp kk s (.iP e ek ex),false,[]⟩) hv) s [v] d:=fun h=>h.mono (by simp) hkk;exact l8.put _ (hm1 d1) (h4.imp fun _ _ h=>hm1 h)
   .simp at h
  .simp at h
 .simp at h
theorem akq(hrel:aJ P N0 w0 ρ S hv a w){it:Operand}(hop:o.op= .next it true){x:SX}{r:Nat}{b:aG}(h:x9 S.blks (S.ev P [] it 0)=some (x,r,b)):
  o.wp P a w (fun a' w'=>∃hv',aJ P N0 w0 ρ {S with tmps:=cO S.tmps o.dst ⟨[],x⟩,blks:=S.blks.set r b} hv' a' w') Q:=by
 unfold x9 at h;split at h
 .rename_i r' hi;split at h
  .rename_i s p hb;simp only[bQ,fq] at h;obtain ⟨rfl,rfl,rfl⟩:=h;obtain ⟨hkn,hv1⟩:=bC hrel (aR ρ) hi;obtain ⟨g,q,h1,h2,h3,h4⟩:=hrel.blks r' _ hb (aR ρ);have hgb:bH (hv r')=some g:=by rw[h1];rfl
   have hsz:(⟨(s.eval ρ).toStr.toArray⟩:ByteArray).size=(s.eval ρ).toStr.length:=by simp[ByteArray.size]
   have key:∃w':World,∃q':Nat,(Instr.next (.pointer (some ⟨g,0,none⟩)) true o.type).run P w= .ok (if q<(s.eval ρ).toStr.length then .tuple #[.bool true,.int .i64 (q:Int),.int .i32 ((Utf8.decode ⟨(s.eval ρ).toStr.toArray⟩ q).1:Nat)] else .tuple #[.bool false]) w'/\
     w'.os=w.os/\w'.tape=w.tape/\w'.output=w.output/\w'.heap.size=w.heap.size/\(∀k,k≠g->w'.heap[k]?=w.heap[k]?)/\w'.heap[g]?=some (.stringIter ⟨(s.eval ρ).toStr.toArray⟩ q')/\
     ((E.ite (.cmp .lss p (.eT s)) (.raw .add p (.vV s p)) p).eval ρ).toInt=(q':Int):=by
    by_cases hlt:q<(s.eval ρ).toStr.length
    .refine ⟨w.iterAt g ⟨(s.eval ρ).toStr.toArray⟩ (q+(Utf8.decode ⟨(s.eval ρ).toStr.toArray⟩ q).2),_,?_,rfl,rfl,rfl,Lib.iterAt_size _ _ _ _,fun k hk=>Lib.iterAt_other w g k _ _ hk,Lib.iterAt_heap w g _ q _ h4,?_⟩
     .rw[Lib.run_next_any_at w g _ q o.type h4 (by rw[hsz];exact hlt),if_pos hlt]
     .simp[E.eval,jk,h3,hlt,nP]
    .refine ⟨w,q,?_,rfl,rfl,rfl,rfl,fun _ _=>rfl,h4,?_⟩
     .rw[Lib.run_next_end_at w g _ q o.type h4 (by rw[hsz];exact hlt),if_neg hlt]
     .simp[E.eval,jk,h3,hlt]
   obtain ⟨w',q',k1,k2,k3,k4,k5,k6,k7,k8⟩:=key;refine abn (w':=w') ?_ (hrel.write hb rfl rfl hgb k2 k3 k4 k5 k6 (acr hb (.inr ⟨_,_,rfl⟩)) fun hkk=>⟨g,q',h1,h2,k8,k7⟩) ⟨q,h3,rfl⟩;simp only[execOp,hop,hv1,h1];rw[Sem.run_bind,k1];rfl
  .simp at h
 .simp at h
end
section
variable{P:Program}{w:World}
def adj(P:Program)(w:World)(d2:TypeDesc)(x:Value)(s m:Nat)(z:Value)(news:List Value):Prop:=
 ((d2= .string\/∃e2,d2= .slice e2)/\(∀w',(Builtin.lenOf x).run P w'= .ok m w')/\∀k,(Builtin.firstCells s m x).run P {w with drawn:=k}= .ok news.toArray {w with drawn:=k})\/
 ∃q kx,d2= .int q/\x= .int kx (m:Int)/\news=(Builtin.zeroCells z.cells m).toList
theorem wrap_i64{n:Int}(h: -9223372036854775808<=n)(h2:n<9223372036854775808):IntKind.i64.wrap n=n:=by
 simp[IntKind.wrap,IntKind.bits,IntKind.signed];split<;>omega
theorem DU(P:Program)(w:World)(k:IntKind)(n:Int):(asInt (.int k n)).run P w= .ok n w:=by simp[asInt,asIntOf]
set_option maxHeartbeats 400000 in
theorem run_append_row{t t2 et ty:TypeId}{d2:TypeDesc}{i:TypeInfo}{z:Value}{s n m:Nat}{B:Nat->Prop}{dV:TypeId}{v x:Value}{xs news:List Value}
  (ht:P.underlying t=some (.slice et)) (ht2:P.underlying t2=some d2) (hi:P.info? et=some i) (hz:i.zero=some z) (hs:i.size=s) (hzs:z.cells.size=s) (hs0:0<s)
  (hown:w.iA B dV s v n xs) (hS:adj P w d2 x s m z news)
  (hln:news.length=m*s) (h1:∀u∈news,u.oneCell'=true) (h63:n+m<=maxLen) (hby:(n+m)*i.bytes<=140737488355328) (hB:B w.heap.size):
  ∃v' w' wJ,(Builtin.append_ #[t,t2] ty #[v,x]).run P w= .ok v' w'/\w'.iA B wJ s v' (n+m) (xs++news)/\w.grownBy w' (bH v)/\(bH v'=bH v\/bH v'=some w.heap.size)/\w'.iA B dV s v n xs:=by
 have hlx:=hown.1;have hll:(xs++news).length=(n+m)*s:=by rw[bg,hlx,hln,Nat.add_mul]
 have hsm:n+m<=9223372036854775807:=by simp only[maxLen] at h63;omega
 have hbm:m*i.bytes<=140737488355328:=kL (Nat.mul_le_mul_right _ (Nat.le_add_left m n)) hby;have z1:IntKind.i64.wrap (m:Int)=m:=by
  have h9:= @wrap_i64 (m:Int) (by omega) (by omega);exact h9
 have z2:¬((m:Int)<0):=by omega
 have z3:¬(281474976710656<(m:Int)*(i.bytes:Int)):=by
  have:((m*i.bytes:Nat):Int)<=140737488355328:=by omega
  rw[Int.natCast_mul] at this;omega
 have grown:∀(old:Nat),
   (w.drew.alloc (.cells (xs.toArray++news.toArray++Builtin.zeroCells z.cells (grownCap w (n+m) old et-(n+m))) et)).iA B et s
    (.slice (some ⟨w.heap.size,0,none⟩) (n+m) (grownCap w (n+m) old et)) (n+m) (xs++news)/\
   ∀row,w.grownBy (w.drew.alloc (.cells (xs.toArray++news.toArray++Builtin.zeroCells z.cells (grownCap w (n+m) old et-(n+m))) et)) row:=by
  intro old;have hge:=grownCap_ge w (n+m) old et;have hcm:grownCap w (n+m) old et<=maxLen:=grownCap_le_maxLen w (n+m) old et h63;refine ⟨⟨hll,.inr ⟨w.heap.size,_,_,rfl,hB,heap_alloc_new w.drew _,hge,hcm,?_,?_⟩⟩,fun row=>⟨rfl,rfl,rfl,by simp,fun k hk _=>Below.heap_alloc w.drew _ k hk⟩⟩
  .simp only[Array.size_append,List.size_toArray,size_zeroCells,hzs,hlx,hln,<-Nat.add_mul];congr 1
   omega
  .simp only[Array.toList_append,dI];rw[<-dI,<-hll];exact List.take_left
 have hgc:∀old,(Question.appendCap (n+m) old et).cut (w.tape w.drawn (Question.appendCap (n+m) old et))=grownCap w (n+m) old et:=fun _=>rfl;rcases hown.2 with ⟨rfl,rfl⟩|⟨g,cap,cur,rfl,hbg,hg,hnc,hcm,hcs,htake⟩
 .have hx:xs=[]:=jH (by simpa using hlx);subst hx;by_cases hm:m=0
  .subst hm;have hn:news=[]:=jH (by simpa using hln);subst hn;refine ⟨.slice none 0 0,w,et,?_,⟨by simp,.inl ⟨rfl,rfl⟩⟩,⟨rfl,rfl,rfl,aI _,fun _ _ _=>rfl⟩,.inl rfl,⟨by simp,.inl ⟨rfl,rfl⟩⟩⟩;rcases hS with ⟨hd2,hlen,hsrc⟩|⟨q,kx,rfl,rfl,hnz⟩
   .have Ph:(Builtin.firstCells s 0 x).run P w= .ok #[] w:=hsrc w.drawn;rcases hd2 with rfl|⟨e2,rfl⟩<;>simp[Builtin.append_,run_underlying ht,run_underlying ht2,sizeOf,typeInfo,hi,hs,hlen,Ph]
   .simp[Builtin.append_,run_underlying ht,run_underlying ht2,sizeOf,typeInfo,hi,DU,show IntKind.i64.wrap 0=0 from rfl]
  .have n2:¬(9223372036854775807<(m:Int)):=by omega
   have n3:¬(281474976710656<Builtin.nextslicecap m 0*i.bytes):=by rw[nextslicecap_zero (by omega)];simp at hby;omega
   obtain ⟨g1,g2⟩:=grown 0;simp only[iI,fJ] at g1 g2 hgc |-;refine ⟨_,_,et,?_,g1,g2 _,.inr rfl,⟨by simp,.inl ⟨rfl,rfl⟩⟩⟩;have adO:(Builtin.firstCells s 0 (.slice none 0 0)).run P w.drew= .ok #[] w.drew:=run_firstCells_none w.drew _ _ _ _;rcases hS with ⟨hd2,hlen,hsrc⟩|⟨q,kx,rfl,rfl,rfl⟩
   .have Pg:(Builtin.firstCells s m x).run P w.drew= .ok news.toArray w.drew:=hsrc (w.drawn+1);rcases hd2 with rfl|⟨e2,rfl⟩<;>simp[Builtin.append_,run_underlying ht,run_underlying ht2,sizeOf,typeInfo,hi,hs,hz,zeroValue,hlen,Pg,n2,n3,hm,Question.forced,newRow,hgc,adO]
   .have hm2:¬m*s=0:=by have:=Nat.mul_pos (show 0<m by omega) hs0;omega
    simp[Builtin.append_,run_underlying ht,run_underlying ht2,sizeOf,typeInfo,hi,hs,hz,zeroValue,DU,z1,z2,z3,n2,n3,hm,hm2,Question.forced,newRow,hgc,adO]
 .by_cases hroom:n+m<=cap
  .have hfit:n*s+news.length<=cur.size:=by rw[hln,hcs,<-Nat.add_mul];exact Nat.mul_le_mul_right _ hroom
   have hst:=run_storeCells_at P g (n*s) dV news 0 cur w hg (by simpa using hfit) h1;simp only[Nat.add_zero] at hst;refine ⟨.slice (some ⟨g,0,none⟩) (n+m) cap,w.setRow g (cur.toList.take (n*s)++news++cur.toList.drop (n*s+news.length)).toArray,dV,?_,⟨hll,.inr ⟨g,cap,_,rfl,hbg,setRow_heap w g cur _ dV _ hg,hroom,hcm,?_,?_⟩⟩,
    ⟨rfl,rfl,rfl,by simp,fun k _ hk=>setRow_other w g k _ (fun e=>hk (by simp[bH,e]))⟩,.inl rfl,⟨hlx,.inr ⟨g,cap,_,rfl,hbg,setRow_heap w g cur _ dV _ hg,hnc,hcm,?_,?_⟩⟩⟩
   .rcases hS with ⟨hd2,hlen,hsrc⟩|⟨q,kx,rfl,rfl,rfl⟩
    .have Ph:(Builtin.firstCells s m x).run P w= .ok news.toArray w:=hsrc w.drawn;rcases hd2 with rfl|⟨e2,rfl⟩<;>simp[Builtin.append_,run_underlying ht,run_underlying ht2,sizeOf,typeInfo,hi,hs,hlen,Ph,hroom,addr_add,hst]
    .by_cases hm:m=0
     .subst hm;have J5:=hst;simp[Builtin.zeroCells] at J5;simp[Builtin.append_,run_underlying ht,run_underlying ht2,sizeOf,typeInfo,hi,hs,DU,show IntKind.i64.wrap 0=0 from rfl,show n<=cap by omega,addr_add,J5,Builtin.zeroCells]
     .have hm2:¬m*s=0:=by have:=Nat.mul_pos (show 0<m by omega) hs0;omega
      simp[Builtin.append_,run_underlying ht,run_underlying ht2,sizeOf,typeInfo,hi,hs,hz,zeroValue,DU,z1,z2,z3,hm2,hroom,addr_add,hst]
   .simp only[List.size_toArray,bg,gD,jV,Array.length_toList];omega
   .rw[htake,<-hll];exact List.take_left
   .simp only[List.size_toArray,bg,gD,jV,Array.length_toList];omega
   .have hle:n*s<=cur.toList.length:=by rw[Array.length_toList,hcs];exact Nat.mul_le_mul_right _ hnc
    rw[htake,dI,<-hlx];exact List.take_left
  .have n2:¬(9223372036854775807<(n:Int)+(m:Int)):=by omega
   have n3:¬(281474976710656<Builtin.nextslicecap (n+m) cap*i.bytes):=by have:=growslice_fits (by omega:cap<n+m) hby;omega
   have holds:kZ w g 0 xs:=by
    rcases pQ hown with ⟨h0,_,_⟩|⟨g',cap',h0,_,_,_,_,hc⟩
    .cases h0
    .injection h0 with h0;injection h0 with h0;injection h0 with h0;subst h0;exact hc
   have hold:(Builtin.firstCells s n (.slice (some ⟨g,0,none⟩) n cap)).run P w.drew= .ok xs.toArray w.drew:=
    run_firstCells_some (P:=P) w.drew s n ⟨g,0,none⟩ n cap xs hlx (fun j v hv=>by rw[addr_add];exact holds j v hv)
   obtain ⟨g1,g2⟩:=grown cap;refine ⟨_,_,et,?_,g1,g2 _,.inr rfl,⟨hlx,.inr ⟨g,cap,cur,rfl,hbg,?_,hnc,hcm,hcs,htake⟩⟩⟩;rotate_left
   .rw[<-hg];exact Below.heap_alloc w.drew _ g (fu.1 hg).1
   rcases hS with ⟨hd2,hlen,hsrc⟩|⟨q,kx,rfl,rfl,rfl⟩
   .have Pg:(Builtin.firstCells s m x).run P w.drew= .ok news.toArray w.drew:=hsrc (w.drawn+1);rcases hd2 with rfl|⟨e2,rfl⟩<;>simp[Builtin.append_,run_underlying ht,run_underlying ht2,sizeOf,typeInfo,hi,hs,hz,zeroValue,hlen,Pg,hroom,n2,n3,Question.forced,newRow,hgc,hold];all_goals (congr 2;apply Array.ext';simp)
   .have hm2:¬m*s=0:=by have:=Nat.mul_pos (show 0<m by omega) hs0;omega
    simp[Builtin.append_,run_underlying ht,run_underlying ht2,sizeOf,typeInfo,hi,hs,hz,zeroValue,DU,z1,z2,z3,hm2,hroom,n2,n3,Question.forced,newRow,hgc,hold]
end
section
variable{P:Program}{cfg:dA}{N0:Nat->Prop}{w0:Wb}{ρ:List C}{S:SS}{hv:Nat->Value}{a:Act}{w:World}{o:Oper}{Q:Exit->Act->World->Prop}
theorem akf(hrel:aJ P N0 w0 ρ S hv a w){y:SX}{v:Value}{s:Sh}{m:E}{f:List Nat}(h:iF S.rb [] y=some (.sl s,m,f))(hx:bB w (NN N0 w0.own ρ S.blks hv) ρ S.blks hv y v):
  ∃ad cap news,v= .slice ad (m.eval ρ).toList.length cap/\bF w (NN N0 w0.own ρ S.blks hv) s news (m.eval ρ).toList/\
   ((m.eval ρ).toList≠[]->∃b off,ad=some ⟨b,off,none⟩/\b<w.heap.size/\kZ w b off news):=by
 have hdat:=Ce (uZ hrel.rows (aR ρ) h hx);obtain ⟨ad,cap,h1,h2,h3,h4⟩:=hdat;simp only[iJ,and_true] at h1;unfold iF at h;split at h
 .rename_i s1 e1;simp at h;obtain ⟨rfl,rfl,rfl⟩:=h;obtain ⟨ad,cap,g1,g2,g3,g4⟩:=Ce hx;simp only[iJ,and_true] at g1;by_cases hne:(e1.eval ρ).toList=[]
  .exact ⟨ad,cap,[],g1,by rw[hne];rfl,fun h=>absurd hne h⟩
  .obtain ⟨b,off,rfl,hb,hlt,hra⟩:=g4 hne;obtain ⟨xs,hxs,hc⟩:=hra.row;exact ⟨_,cap,xs,g1,hxs,fun _=>⟨b,off,rfl,hlt,hc⟩⟩
 .rename_i r n;split at h
  .rename_i s' e' hr;simp at h;obtain ⟨rfl,rfl,rfl⟩:=h;obtain ⟨p,hin,hpp⟩:=oH (aR ρ) hr;obtain ⟨et,xs,hown,hrd,_⟩:=hrel.rows.row r _ _ p hin hpp;obtain ⟨hv1,_⟩:=hx.2 _ _ p hin hpp;rw[Mj] at*;refine ⟨ad,cap,xs,h1,hrd,fun hne=>?_⟩;rcases pQ hown with ⟨_,h6,_⟩|⟨g,cap',h5,_,_,hlt,_,hc⟩
   .exact absurd (jH h6) hne
   .rw[hv1,h5] at h1;injection h1 with h1;exact ⟨g,0,h1.symm,hlt,hc⟩
  .simp at h
 .rename_i r off n;split at h
  .rename_i s' e' hr;simp at h;obtain ⟨rfl,rfl,rfl⟩:=h;obtain ⟨p,hin,hpp⟩:=oH (aR ρ) hr;obtain ⟨et,xs,hown,hrd,_⟩:=hrel.rows.row r _ _ p hin hpp;obtain ⟨o1,m1,ho,hm,hle,a1,c1,hv1,_,_,ha⟩:=hx.2 _ _ p hin hpp;have hev:((E.sub e' off (.raw .add off n)).eval ρ).toList=((e'.eval ρ).toList.take (o1+m1)).drop o1:=by
    simp only[E.eval,nP,C.kU,C.toInt_int,ho,hm];congr 2
   refine ⟨ad,cap,(xs.take ((o1+m1)*s'.size)).drop (o1*s'.size),h1,by rw[hev];exact (hrd.take (o1+m1)).drop o1,fun hne=>?_⟩;rw[hev] at hne;have hm0:0<m1:=by
    rcases Nat.eq_zero_or_pos m1 with h0|h0
    .subst h0;exact absurd (jH (by simp)) hne
    .exact h0
   obtain ⟨g,hg,rfl⟩:=ha hm0;rw[hv1] at h1;injection h1 with h1 _ _;rcases pQ hown with ⟨h5,_,_⟩|⟨g',cap',h5,_,_,hlt,_,hc⟩
   .rw[h5] at hg;cases hg
   .rw[h5] at hg;injection hg with hg;subst hg;refine ⟨g',o1*s'.size,h1.symm,hlt,fun j u hu=>?_⟩;rw[uQ,mR] at hu;split at hu
    .have:=hc _ u hu;simpa using this
    .cases hu
  .simp at h
 .simp at h
 .split at h<;>simp at h
 .simp at h
theorem Ya(hrel:aJ P N0 w0 ρ S hv a w){t:TypeId}{x:Operand}{y:SX}{s:Sh}{m:E}{f:List Nat}(h:uE P S.blks t y=some (s,m,f))(hx:bB w (NN N0 w0.own ρ S.blks hv) ρ S.blks hv y (a.eval x)):
  ∃d2 news,P.underlying t=some d2/\(d2= .string\/∃e2,d2= .slice e2)/\
   bF w (NN N0 w0.own ρ S.blks hv) s news (m.eval ρ).toList/\(∀w',(Builtin.lenOf (a.eval x)).run P w'= .ok (m.eval ρ).toList.length w')/\
   ∀(w':World) k,(∀b,b<w.heap.size->w'.heap[b]?=w.heap[b]?)->k<=(m.eval ρ).toList.length->(Builtin.firstCells s.size k (a.eval x)).run P w'= .ok (news.take (k*s.size)).toArray w':=by
 unfold uE at h;split at h
 .rename_i e ht;simp at h;obtain ⟨rfl,rfl,rfl⟩:=h;rw[oJ] at hx;have hsz:ByteArray.size ⟨(e.eval ρ).toStr.toArray⟩=(e.eval ρ).toStr.length:=by show (e.eval ρ).toStr.toArray.size=_;simp
  refine ⟨.string,(e.eval ρ).toStr.map fun b=> .int .u8 b.toNat,ht,.inl rfl,?_,fun w'=>?_,fun w' k _ hk=>?_⟩
  .rw[Ih];simp[E.eval,ofBytes,Function.comp_def]
  .rw[hx];simp[Builtin.lenOf,hsz,E.eval,ofBytes]
  .rw[hx];have he:=WQ (e.eval ρ).toStr 0 k;simp only[pz] at he;simp[Builtin.firstCells,he,Sh.size,List.map_take]
 .rename_i ys e2 ht;split at h
  .rename_i s' e f' hd;simp at h;obtain ⟨rfl,rfl,rfl⟩:=h;obtain ⟨ad,cap,news,h1,h2,h3⟩:=akf hrel hd hx;rw[h1];have hlen:∀w',(Builtin.lenOf (.slice ad (e.eval ρ).toList.length cap)).run P w'= .ok (e.eval ρ).toList.length w':=fun w'=>by simp[Builtin.lenOf]
   refine ⟨_,news,ht,.inr ⟨_,rfl⟩,h2,hlen,fun w' k hw hk=>?_⟩;by_cases hne:(e.eval ρ).toList=[]
   .rw[hne] at hk;have hk0:k=0:=by simpa using hk
    subst hk0;cases ad with
    |none=>simp[Builtin.firstCells]
    |some ad=>simp[Builtin.firstCells,loadCells,loadCellsFrom]
   .obtain ⟨b,off,rfl,hlt,hc⟩:=h3 hne;have hle:k*s'.size<=news.length:=by rw[h2.length];exact Nat.mul_le_mul_right _ hk
    have hl:(news.take (k*s'.size)).length=k*s'.size:=by simp;omega
    refine run_firstCells_some (P:=P) w' s'.size k ⟨b,off,none⟩ _ cap _ hl fun j v hv=>?_;rw[addr_add,World.cell?_of_block (w:=w) (a:=⟨b,off+j,none⟩) (hw b hlt)];rw[mR] at hv;split at hv
    .exact hc j v hv
    .cases hv
  .simp at h
 .simp at h
theorem alg(hrel:aJ P N0 w0 ρ S hv a w){et t:TypeId}{x:Operand}{y:SX}{s:Sh}{m:E}{f:List Nat}(h:oV P S.blks et t y=some (s,m,f))(hx:bB w (NN N0 w0.own ρ S.blks hv) ρ S.blks hv y (a.eval x))
  {i:TypeInfo} {z:Value} (hi:P.info? et=some i) (hz:i.zero=some z) (hs0:0<s.size):
  ∃d2 news,P.underlying t=some d2/\bF w (NN N0 w0.own ρ S.blks hv) s news (m.eval ρ).toList/\((m.eval ρ).toList.length<=140737488355328->adj P w d2 (a.eval x) s.size (m.eval ρ).toList.length z news):=by
 unfold oV at h;split at h
 .rename_i kx e q ht;split at h
  .rename_i s' hs';split at h
   .rename_i ze hze;simp only[bQ,fq] at h;obtain ⟨rfl,rfl,rfl⟩:=h;obtain ⟨i',z',hi',hz',hr,_⟩:=Dw (w:=w) (N:=NN N0 w0.own ρ S.blks hv) (ρ:=ρ) hze;rw[hi] at hi';injection hi' with hi';subst hi';rw[hz] at hz';injection hz' with hz';subst hz';obtain ⟨vs,e1,e2,_⟩:=hx;simp only[Rd] at e1;subst e1;have hl:z.cells.size=s'.size:=by have:=hr.length;simpa using this
    obtain ⟨n,hn,hbad⟩:∃n:Nat,((E.rep (.ite (.cmp .geq e (.int 0)) e (.int 1152921504606846976)) ze).eval ρ).toList=List.replicate n (ze.eval ρ)/\(n<=140737488355328->(n:Int)=(e.eval ρ).toInt):=by
     refine ⟨(if jk .geq (e.eval ρ).toInt 0=true then e.eval ρ else .int 1152921504606846976).toInt.toNat,rfl,fun hb=>?_⟩;by_cases hp:jk .geq (e.eval ρ).toInt 0=true
     .rw[if_pos hp];have:(e.eval ρ).toInt≥0:=of_decide_eq_true hp;omega
     .rw[if_neg hp,C.toInt_int] at hb;exact absurd hb (by decide)
    rw[hn];refine ⟨_,(Builtin.zeroCells z.cells n).toList,ht,?_,fun hb=> .inr ⟨q,kx,rfl,?_,by rw[mQ]⟩⟩
    .have:=KN hr hs0 n;simpa [Builtin.zeroCells,hl] using this
    .rw[mQ] at hb |-;rw[e2,hbad hb];rfl
   .simp at h
  .simp at h
 .obtain ⟨d2,news,q1,q2,q3,q4,q5⟩:=Ya hrel h hx;have htk:news.take ((m.eval ρ).toList.length*s.size)=news:=jB (by rw[q3.length];omega);refine ⟨d2,news,q1,q3,fun _=> .inl ⟨q2,q4,fun k=>?_⟩⟩;have:=q5 {w with drawn:=k} (m.eval ρ).toList.length (fun _ _=>rfl) (aI _);rwa[htk] at this
theorem M0{N:Nat->Prop}{s:Sh}:∀ {l:List C} {xs:List Value},bF w N s xs l->∀u∈xs,u.oneCell'=true
 | [],_,h=>by simp only[bF] at h;subst h;simp
 |_::_,_,⟨u,r,h1,h2,h3⟩=>by
  subst h1;intro x hx;rcases iZ.1 hx with hx|hx
  .exact (xM h2 x hx).1
  .exact M0 h3 x hx
theorem Hl{bs:List aG}{d:Nat}(h:nT bs d=true):∃k,bs[d]?=some k/\k.lb= .none:=by
 unfold nT at h;split at h
 .rename_i f p hb;exact ⟨_,hb,rfl⟩
 .cases h
theorem aJ.grows(h:aJ P N0 w0 ρ S hv a w){r d:Nat}{s:Sh}{e:E}(hr:S.blks[r]?=some ⟨.row s e,false,[]⟩)(hd:∃k,S.blks[d]?=some k/\k.lb= .none){v':Value}{w':World}{lb:LB}(hl:eG ⟨lb,false,[]⟩=true)
  (hg:w.grownBy w' (bH (hv r))) (hvg:∀g,bH v'=some g->bH (hv r)=some g\/w.heap.size<=g)
  (hok:(∀b,NN N0 w0.own ρ S.blks hv b->b<w.heap.size->w'.heap[b]?=w.heap[b]?/\NN N0 w0.own ρ ((S.blks.set r ⟨.dead,false,[]⟩).set d ⟨lb,false,[]⟩) (upd hv d v') b)->
   oq w' w0.own (NN N0 w0.own ρ ((S.blks.set r ⟨.dead,false,[]⟩).set d ⟨lb,false,[]⟩) (upd hv d v')) ρ ((S.blks.set r ⟨.dead,false,[]⟩).set d ⟨lb,false,[]⟩) (upd hv d v') d lb):
  aJ P N0 w0 ρ {S with blks:=(S.blks.set r ⟨.dead,false,[]⟩).set d ⟨lb,false,[]⟩} (upd hv d v') a w':=by
 have hrl:r<S.blks.length:=(dF.1 hr).1;obtain ⟨k0,hk0,hn0⟩:=hd;have hdl:d<S.blks.length:=(dF.1 hk0).1;have hrd:r≠d:=by rintro rfl;rw[hr] at hk0;injection hk0 with hk0;subst hk0;cases hn0
 have arj:((S.blks.set r ⟨.dead,false,[]⟩).set d ⟨lb,false,[]⟩)[d]?=some ⟨lb,false,[]⟩:=zw (by simpa using hdl);have qZ:((S.blks.set r ⟨.dead,false,[]⟩).set d ⟨lb,false,[]⟩)[r]?=some ⟨.dead,false,[]⟩:=by rw[dN hrd.symm];exact zw hrl
 have qp:∀q,q≠r->q≠d->((S.blks.set r ⟨.dead,false,[]⟩).set d ⟨lb,false,[]⟩)[q]?=S.blks[q]?:=fun q h1 h2=>by rw[dN h2.symm,dN h1.symm]
 have hkk:∀b,NN N0 w0.own ρ S.blks hv b->b<w.heap.size->w'.heap[b]?=w.heap[b]?/\NN N0 w0.own ρ ((S.blks.set r ⟨.dead,false,[]⟩).set d ⟨lb,false,[]⟩) (upd hv d v') b:=by
  intro b hb' hlt;have hbr:=hb'.2 r _ hr rfl rfl (aR ρ);refine ⟨hg.block b hlt (fun e=>hbr e.symm),hb'.1,fun q k hq hlk hf hp=>?_⟩;by_cases mZ:q=d
  .subst mZ;simp only[upd,if_true];intro hc;rcases hvg b hc with h1|h1
   .exact hbr h1
   .omega
  .simp only[upd,if_neg mZ];by_cases hqr:q=r
   .subst hqr;rw[qZ] at hq;simp only[bQ] at hq;subst hq;simp[eG] at hlk
   .rw[qp q hqr mZ] at hq;exact hb'.2 q k hq hlk hf hp
 have hne:∀q,known S.blks q->q≠d:=by
  rintro q ⟨k,h1,h2⟩ rfl;rw[hk0] at h1;injection h1 with h1;subst h1;exact h2 hn0
 have hle:iQ ρ S.blks ((S.blks.set r ⟨.dead,false,[]⟩).set d ⟨lb,false,[]⟩) hv (upd hv d v'):=by
  refine ⟨fun q hq=>⟨?_,by simp[upd,hne q hq]⟩,fun q s' e' p hq h'=>?_,fun q cs p hq h'=>?_⟩
  .by_cases hqr:q=r
   .subst hqr;exact ⟨_,qZ,by simp⟩
   .obtain ⟨k,h1,h2⟩:=hq;exact ⟨k,by rw[qp q hqr (hne q ⟨k,h1,h2⟩)];exact h1,h2⟩
  .by_cases hqr:q=r
   .subst hqr;simp[bV,qZ] at h'
   .refine ⟨e',?_,rfl⟩;unfold bV at h' |-;rwa[qp q hqr (hne q hq)] at h'
  .by_cases hqr:q=r
   .subst hqr;simp[dZ,qZ] at h'
   .refine ⟨cs,?_⟩;unfold dZ at h' |-;rwa[qp q hqr (hne q hq)] at h'
 have hbel:nY P w0 w':=h.below.after hg.os hg.tape hg.output hg.size fun k hk hn=>hg.block k hk fun e=>hn (h.lt hr rfl (aR ρ) e.symm).2;refine h.step hle hbel hg.size hkk ?_ ?_
 .intro q k hq hp;by_cases mZ:q=d
  .subst mZ;rw[arj] at hq;injection hq with hq;subst hq;exact hok hkk
  .by_cases hqr:q=r
   .subst hqr;rw[qZ] at hq;injection hq with hq;subst hq;trivial
   .rw[qp q hqr mZ] at hq;by_cases hlk:eG k=true
    .refine (h.blks q k hq hp).le hg.size hkk hle (by simp[upd,mZ]) fun g' hg'=>hg.block g' (h.lt hq hlk hp hg').1 fun e=>?_;exact h.dist r q _ k g' hr hq (fun e=>hqr e.symm) rfl hlk (aR ρ) hp e.symm hg'
    .obtain ⟨Gl,f2,p2⟩:=k;cases Gl with
     |none=>trivial
     |dead=>trivial
     |row s e=>exact absurd rfl hlk
     |box cs=>exact absurd rfl hlk
     |mp _ _ _=>exact absurd rfl hlk
     |sit _ _=>exact absurd rfl hlk
 .have one:∀q k g',((S.blks.set r ⟨.dead,false,[]⟩).set d ⟨lb,false,[]⟩)[q]?=some k->q≠d->eG k=true->aS ρ k.bM->bH (hv q)=some g'->q≠r/\S.blks[q]?=some k:=by
   intro q k g' hq mZ hlk hp P9;have hqr:q≠r:=by
    rintro rfl;rw[qZ] at hq;injection hq with hq;subst hq;cases hlk
   exact ⟨hqr,by rw[qp q hqr mZ] at hq;exact hq⟩
  have vs:∀q k g',q≠r->S.blks[q]?=some k->eG k=true->aS ρ k.bM->bH (hv q)=some g'->bH v'≠some g':=by
   intro q k g' hqr hq hlk hp P9 hc;rcases hvg g' hc with h1|h1
   .exact h.dist r q _ k g' hr hq (fun e=>hqr e.symm) rfl hlk (aR ρ) hp h1 P9
   .have:=(h.lt hq hlk hp P9).1;omega
  intro q1 q2 k1 k2 g' hq1 hq2 Pm hl1 hl2 hp1 hp2 hg1 hg2;by_cases h1:q1=d
  .subst h1;simp only[upd,if_true,if_neg Pm.symm] at hg1 hg2;obtain ⟨b1,b2⟩:=one q2 k2 g' hq2 Pm.symm hl2 hp2 hg2;exact vs q2 k2 g' b1 b2 hl2 hp2 hg2 hg1
  .simp only[upd,if_neg h1] at hg1;obtain ⟨a1,a2⟩:=one q1 k1 g' hq1 h1 hl1 hp1 hg1;by_cases h2:q2=d
   .subst h2;simp only[upd,if_true] at hg2;exact vs q1 k1 g' a1 a2 hl1 hp1 hg1 hg2
   .simp only[upd,if_neg h2] at hg2;obtain ⟨b1,b2⟩:=one q2 k2 g' hq2 h2 hl2 hp2 hg2;exact h.dist q1 q2 k1 k2 g' a2 b2 Pm hl1 hl2 hp1 hp2 hg1 hg2
theorem zl{bs:List aG}{r:Nat}{s:Sh}{e:E}(h:ownRow bs r=some (s,e)):bs[r]?=some ⟨.row s e,false,[]⟩:=by
 unfold ownRow at h;split at h
 .rename_i hb;simp at h;obtain ⟨rfl,rfl⟩:=h;exact hb
 .simp at h
theorem FI{x:SX}{v:Value}{w':World}{hv':Nat->Value}{bs':List aG}(hr:(execOp a.eval o).run P w= .ok (.value v) w')(hrel:aJ P N0 w0 ρ {S with blks:=bs'} hv' a w')
  (hx:bB w' (NN N0 w0.own ρ bs' hv') ρ bs' hv' x v):
  o.wp P a w (fun a' w'=>∃hv',aJ P N0 w0 ρ {S with tmps:=cO S.tmps o.dst ⟨[],x⟩,blks:=bs'} hv' a' w') Q:=by
 unfold Oper.wp;rw[hr];exact ⟨hv',hrel.put o.dst [] x v (fun _=>hx) (fun h=>absurd (aR ρ) h)⟩
theorem Lu{b:Builtin}{args:Array Operand}{ts:Array TypeId}(hop:o.op= .call {callee:= .builtin b,args:=args,argTypes:=ts}){m:Sem Value}
  (hm:∀consts,builtin b ts o.type consts (args.map a.eval)=(do pure (.value (<-m)))) {v:Value} {w':World} (hv:m.run P w= .ok v w'):(execOp a.eval o).run P w= .ok (.value v) w':=by
 simp only[execOp,hop,resolve,invoke];simp only[Sem.run_bind,Sem.run_pure,Result.andThen_ok,hm,hv]
theorem BX{N B:Nat->Prop}{et:TypeId}{s:Sh}{v:Value}{c:C}{xs:List Value}(hown:w.iA B et s.size v c.toList.length xs)(hr:bF w N s xs c.toList)(hN:∀g,bH v=some g->N g):Rd w N (.sl s) [v] c:=by
 rcases pQ hown with ⟨h0,h1,h2⟩|⟨g,cap,h0,h1,h2,h3,h4,hc⟩
 .subst h0;refine ⟨none,0,?_,by omega,bK _,fun hne=>absurd (jH (by omega)) hne⟩;have:c.toList.length=0:=by omega
  rw[this]
 .subst h0;refine ⟨some ⟨g,0,none⟩,cap,rfl,by omega,by omega,fun _=>⟨g,0,rfl,hN g rfl,by assumption,qR.of_row hr hc⟩⟩
theorem aJ.keeps(h:aJ P N0 w0 ρ S hv a w){r:Nat}{s:Sh}{e:E}(hr:S.blks[r]?=some ⟨.row s e,false,[]⟩){w':World}(hg:w.grownBy w' (bH (hv r)))
  (hok:(∀b,NN N0 w0.own ρ S.blks hv b->b<w.heap.size->w'.heap[b]?=w.heap[b]?/\NN N0 w0.own ρ (S.blks.set r ⟨.row s e,true,[]⟩) hv b)->
   oq w' w0.own (NN N0 w0.own ρ (S.blks.set r ⟨.row s e,true,[]⟩) hv) ρ (S.blks.set r ⟨.row s e,true,[]⟩) hv r (.row s e)):
  aJ P N0 w0 ρ {S with blks:=S.blks.set r ⟨.row s e,true,[]⟩} hv a w'/\∀b,NN N0 w0.own ρ S.blks hv b->b<w.heap.size->w'.heap[b]?=w.heap[b]?/\NN N0 w0.own ρ (S.blks.set r ⟨.row s e,true,[]⟩) hv b:=by
 have hrl:r<S.blks.length:=(dF.1 hr).1;have qZ:(S.blks.set r ⟨.row s e,true,[]⟩)[r]?=some ⟨.row s e,true,[]⟩:=zw hrl;have qp:∀q,q≠r->(S.blks.set r ⟨.row s e,true,[]⟩)[q]?=S.blks[q]?:=fun q h1=>dN h1.symm;have hkk:∀b,NN N0 w0.own ρ S.blks hv b->b<w.heap.size->w'.heap[b]?=w.heap[b]?/\NN N0 w0.own ρ (S.blks.set r ⟨.row s e,true,[]⟩) hv b:=by
  intro b hb' hlt;have hbr:=hb'.2 r _ hr rfl rfl (aR ρ);refine ⟨hg.block b hlt (fun e=>hbr e.symm),hb'.1,fun q k hq hlk hf hp=>?_⟩;by_cases hqr:q=r
  .subst hqr;exact hbr
  .rw[qp q hqr] at hq;exact hb'.2 q k hq hlk hf hp
 have hle:iQ ρ S.blks (S.blks.set r ⟨.row s e,true,[]⟩) hv hv:=by
  refine ⟨fun q hq=>⟨?_,rfl⟩,fun q s' e' p hq h'=>⟨e',?_,rfl⟩,fun q cs p hq h'=>⟨cs,?_⟩⟩
  .by_cases hqr:q=r
   .subst hqr;exact ⟨_,qZ,by simp⟩
   .obtain ⟨k,h1,h2⟩:=hq;exact ⟨k,by rw[qp q hqr];exact h1,h2⟩
  .by_cases hqr:q=r
   .subst hqr;simp only[bV,qZ,hr] at h' |-;exact h'
   .unfold bV at h' |-;rwa[qp q hqr] at h'
  .by_cases hqr:q=r
   .subst hqr;simp[dZ,qZ] at h'
   .unfold dZ at h' |-;rwa[qp q hqr] at h'
 have hbel:nY P w0 w':=h.below.after hg.os hg.tape hg.output hg.size fun k hk hn=>hg.block k hk fun e=>hn (h.lt hr rfl (aR ρ) e.symm).2;refine ⟨h.step hle hbel hg.size hkk ?_ ?_,hkk⟩
 .intro q k hq hp;by_cases hqr:q=r
  .subst hqr;rw[qZ] at hq;injection hq with hq;subst hq;exact hok hkk
  .rw[qp q hqr] at hq;by_cases hlk:eG k=true
   .refine (h.blks q k hq hp).le hg.size hkk hle rfl fun g' hg'=>hg.block g' (h.lt hq hlk hp hg').1 fun e=>?_;exact h.dist r q _ k g' hr hq (fun e=>hqr e.symm) rfl hlk (aR ρ) hp e.symm hg'
   .obtain ⟨Gl,f2,p2⟩:=k;cases Gl with
    |none=>trivial
    |dead=>trivial
    |row s e=>exact absurd rfl hlk
    |box cs=>exact absurd rfl hlk
    |mp _ _ _=>exact absurd rfl hlk
    |sit _ _=>exact absurd rfl hlk
 .have back:∀(q:Nat) (k:aG),(S.blks.set r ⟨.row s e,true,[]⟩)[q]?=some k->∃k0,S.blks[q]?=some k0/\eG k=eG k0/\k.bM=k0.bM:=by
   intro q k hq;by_cases hqr:q=r
   .subst hqr;rw[qZ] at hq;injection hq with hq;subst hq;exact ⟨_,hr,rfl,rfl⟩
   .rw[qp q hqr] at hq;exact ⟨k,hq,rfl,rfl⟩
  intro q1 q2 k1 k2 g' hq1 hq2 hne hl1 hl2 hp1 hp2;obtain ⟨k1',a1,a2,a3⟩:=back q1 k1 hq1;obtain ⟨k2',b1,b2,b3⟩:=back q2 k2 hq2;rw[a2] at hl1;rw[b2] at hl2;rw[a3] at hp1;rw[b3] at hp2;exact h.dist q1 q2 k1' k2' g' a1 b1 hne hl1 hl2 hp1 hp2
theorem ajq(hrel:aJ P N0 w0 ρ S hv a w){keep:Bool}{ts:Array TypeId}{x y:Operand}{d:Nat}(hop:o.op= .call {callee:= .builtin .append,args:= #[x,y],argTypes:=ts}){sx:SX}{bs':List aG}{obs:List Ob}
  (h:ED P keep S.blks ts d (S.ev P [] x (ts.getD 0 0)) (S.ev P [] y (ts.getD 1 0))=some (sx,bs',obs)) (ho:dB P ρ S.nv obs):
  o.wp P a w (fun a' w'=>∃hv',aJ P N0 w0 ρ {S with tmps:=cO S.tmps o.dst ⟨[],sx⟩,blks:=bs'} hv' a' w') Q:=by
 unfold ED at h;split at h
 .rename_i et sa sb ht hsa hsb;split at h
  .simp at h
  .rename_i s m f hsrc;split at h
   .rename_i hok;simp only[aP,bR] at hok;obtain ⟨⟨⟨⟨hts,hz⟩,hfit⟩,hs0⟩,hb0⟩:=hok;have hs0:0<s.size:=by simp at hs0;omega
    have hb0:0<P.bytesOf et:=by simp at hb0;omega
    obtain ⟨t0,t1,rfl⟩:∃t0 t1,ts= #[t0,t1]:=by
     obtain ⟨tl⟩:=ts;match tl,hts with
     | [t0,t1],_=>exact ⟨t0,t1,rfl⟩
    obtain ⟨ze,hz⟩:=kK.1 hz;obtain ⟨i,z,hi,hz1,hz2,_⟩:=Dw (w:=w) (N:=NN N0 w0.own ρ S.blks hv) (ρ:=ρ) hz;have hzs:z.cells.size=s.size:=by have:=hz2.length;simpa using this
    obtain ⟨i',d',hi',hsz,_,_⟩:=Bv hfit;rw[hi] at hi';injection hi' with hi';subst hi';obtain ⟨d2,news,q1,q3,q4⟩:=alg hrel hsrc (bC hrel (aR ρ) hsb) hi hz1 hs0;have hby:P.bytesOf et=i.bytes:=by simp[Program.bytesOf,hi]
    have hB:w0.own w.heap.size:= .inl hrel.below.size;have law:∀ {n:Nat} {dV:TypeId} {v:Value} {xs:List Value},w.iA w0.own dV s.size v n xs->(n+(m.eval ρ).toList.length)*i.bytes<=140737488355328->
      ∃v' w' wJ,(Builtin.append_ #[t0,t1] o.type #[v,a.eval y]).run P w= .ok v' w'/\w'.iA w0.own wJ s.size v' (n+(m.eval ρ).toList.length) (xs++news)/\w.grownBy w' (bH v)/\(bH v'=bH v\/bH v'=some w.heap.size)/\w'.iA w0.own dV s.size v n xs:=by
     intro n dV v xs hown hbytes;rw[hby] at hb0;have hle:n+(m.eval ρ).toList.length<=140737488355328:=kL (Nat.le_mul_of_pos_right _ hb0) hbytes;exact run_append_row (u7 ht) q1 hi hz1 hsz hzs hs0 hown (q4 (by omega)) q3.length (M0 q3) (by simp only[maxLen];omega) hbytes hB
    have exec:∀ {v':Value} {w':World},(Builtin.append_ #[t0,t1] o.type #[a.eval x,a.eval y]).run P w= .ok v' w'->(execOp a.eval o).run P w= .ok (.value v') w':=
     fun hr=>Lu hop (fun _=>by simp[builtin]) hr
    split at h
    .rename_i s';split at h
     .rename_i hok2;simp only[aP,bR] at hok2;obtain ⟨rfl,hfree⟩:=hok2;simp only[bQ,fq] at h;obtain ⟨rfl,rfl,rfl⟩:=h;obtain ⟨vs,e1,e2,e3⟩:=bC hrel (aR ρ) hsa;simp only[Exact] at e3;subst e3;have hv0:a.eval x= .slice none 0 0:=by rw[e2];simp[Sh.mk,Sh.isAgg]
      have h0:=ho.1 (aR ρ);simp only[E.eval,jk,nP,C.GN,C.toInt_int] at h0;have h0:=of_decide_eq_true h0;rw[hby] at h0;have hbytes:(0+(m.eval ρ).toList.length)*i.bytes<=140737488355328:=by
       rw[iI];have:(((m.eval ρ).toList.length*i.bytes:Nat):Int)<=140737488355328:=by rw[Int.natCast_mul];exact h0
       omega
      obtain ⟨v',w',wJ,r1,r2,r3,r4,_⟩:=law (v:= .slice none 0 0) (dV:=et) (n:=0) (xs:=[]) ⟨by simp,.inl ⟨rfl,rfl⟩⟩ hbytes;simp only[iI,fJ] at r2;have hbel:Below w.heap.size w w':=⟨r3.os,r3.tape,r3.output,r3.size,fun k hk=>r3.block k hk (by simp[bH])⟩;have hnew:=Hl hfree;have hdl:d<S.blks.length:=by obtain ⟨k,hk,_⟩:=hnew;exact (dF.1 hk).1
      have hbn:∀g,bH v'=some g->w.heap.size<=g:=by
       intro g hg;rcases r4 with r4|r4
       .rw[r4] at hg;simp[bH] at hg
       .rw[r4] at hg;injection hg with hg;omega
      refine FI (v:=v') (w':=w') (exec (by rw[hv0];exact r1)) (hrel.new hnew (.row s m) [] v' hbel hbn fun _=>?_).1 ⟨⟨⟨.row s m,false,[]⟩,by simp[hdl],by simp⟩,fun s2 e2 p hin _=>?_⟩
      .refine ⟨wJ,news,by simpa [upd] using r2,q3.mono hbel.size ?_,hs0⟩;intro b hb hlt;refine ⟨hbel.block b hlt,hb.1,fun r k hr hl hf hp=>?_⟩;by_cases hrd:r=d
       .subst hrd;simp only[upd,if_true];intro hc;have:=hbn b hc;omega
       .rw[dN (fun e=>hrd e.symm)] at hr;simp only[upd,if_neg hrd];exact hb.2 r k hr hl hf hp
      .simp[bV,hdl] at hin;obtain ⟨rfl,rfl,rfl⟩:=hin;exact ⟨by simp[upd],by rw[BD];rfl⟩
     .simp at h
    .rename_i r n;split at h
     .rename_i s' e hor;split at h
      .split at h
       .rename_i hok2;simp only[aP,bR] at hok2;obtain ⟨rfl,_⟩:=hok2;simp only[bQ,fq] at h;obtain ⟨rfl,rfl,rfl⟩:=h;have hr:=zl hor;have oz:bV S.blks r=some (s,e,[]):=by simp[bV,hr]
        obtain ⟨hv0,hn⟩:=(bC hrel (aR ρ) hsa).2 s e [] oz (aR ρ);obtain ⟨dV,xs,hown,hrd,_⟩:=hrel.rows.row r s e [] oz (aR ρ);have h0:=ho.1 (aR ρ);simp only[E.eval,jk,nP,C.GN,C.toInt_int] at h0;have h0:=of_decide_eq_true h0;rw[hby,hn] at h0;have hbytes:((e.eval ρ).toList.length+(m.eval ρ).toList.length)*i.bytes<=140737488355328:=by
         have:((((e.eval ρ).toList.length+(m.eval ρ).toList.length)*i.bytes:Nat):Int)<=140737488355328:=by rw[Int.natCast_mul,Int.natCast_add];exact h0
         omega
        obtain ⟨v',w',wJ,r1,r2,r3,r4,r5⟩:=law hown hbytes;have CS:((E.app e m).eval ρ).toList=(e.eval ρ).toList++(m.eval ρ).toList:=by simp[E.eval]
        obtain ⟨k1,k2⟩:=hrel.keeps hr r3 fun hkk=>⟨dV,xs,r5,hrd.mono r3.size hkk,hs0⟩;refine FI (v:=v') (w':=w') (exec (by rw[hv0];exact r1)) k1 (uj ⟨[v'],?_,by simp[Sh.mk,Sh.isAgg]⟩ (nN (by simp) (by simp)));have hrow:bF w' (NN N0 w0.own ρ (S.blks.set r ⟨.row s e,true,[]⟩) hv) s (xs++news) ((E.app e m).eval ρ).toList:=by
         rw[CS];exact (hrd.append q3).mono r3.size k2
        have r2':w'.iA w0.own wJ s.size v' ((E.app e m).eval ρ).toList.length (xs++news):=by rw[CS,bg];exact r2
        refine BX r2' hrow fun g hg=>⟨.inr ?_,fun q k hq hlk hf hp hc=>?_⟩
        .rcases r2'.2 with ⟨hz,_⟩|⟨g2,cap2,asA,hz,hz2,_⟩
         .rw[hz] at hg;cases hg
         .rw[hz] at hg;injection hg with hg;subst hg;exact hz2
        .by_cases hqr:q=r
         .subst hqr;rw[zw (dF.1 hr).1] at hq;injection hq with hq;subst hq;cases hf
         .rw[dN (fun e=>hqr e.symm)] at hq;rcases r4 with r4|r4
          .rw[r4] at hg;exact hrel.dist r q _ k g hr hq (fun e=>hqr e.symm) rfl hlk (aR ρ) hp hg hc
          .rw[r4] at hg;injection hg with hg;have:=(hrel.lt hq hlk hp hc).1;omega
       .simp at h
      split at h
      .rename_i hok2;simp only[aP,bR] at hok2;obtain ⟨⟨rfl,_⟩,hfree⟩:=hok2;simp only[bQ,fq] at h;obtain ⟨rfl,rfl,rfl⟩:=h;have hr:=zl hor;have oz:bV S.blks r=some (s,e,[]):=by simp[bV,hr]
       obtain ⟨hv0,hn⟩:=(bC hrel (aR ρ) hsa).2 s e [] oz (aR ρ);obtain ⟨dV,xs,hown,hrd,_⟩:=hrel.rows.row r s e [] oz (aR ρ);have h0:=ho.1 (aR ρ);simp only[E.eval,jk,nP,C.GN,C.toInt_int] at h0;have h0:=of_decide_eq_true h0;rw[hby,hn] at h0;have hbytes:((e.eval ρ).toList.length+(m.eval ρ).toList.length)*i.bytes<=140737488355328:=by
        have:((((e.eval ρ).toList.length+(m.eval ρ).toList.length)*i.bytes:Nat):Int)<=140737488355328:=by rw[Int.natCast_mul,Int.natCast_add];exact h0
        omega
       obtain ⟨v',w',wJ,r1,r2,r3,r4,_⟩:=law hown hbytes;have hnew:=Hl hfree;have hdl:d<S.blks.length:=by obtain ⟨k,hk,_⟩:=hnew;exact (dF.1 hk).1
       have CS:((E.app e m).eval ρ).toList=(e.eval ρ).toList++(m.eval ρ).toList:=by simp[E.eval]
       refine FI (v:=v') (w':=w') (exec (by rw[hv0];exact r1)) (hrel.grows hr hnew (lb:= .row s (.app e m)) rfl r3 (fun g hg=>r4.elim (fun r4=> .inl (r4▸hg)) fun r4=> .inr (by rw[r4] at hg;injection hg with hg;omega)) fun hkk=>?_) ⟨⟨⟨.row s (.app e m),false,[]⟩,by simp[hdl],by simp⟩,fun s2 e2 p hin _=>?_⟩
       .refine ⟨wJ,xs++news,?_,?_,hs0⟩
        .rw[CS,bg];simpa [upd] using r2
        .rw[CS];exact (hrd.append q3).mono r3.size hkk
       .simp[bV,hdl] at hin;obtain ⟨rfl,rfl,rfl⟩:=hin;refine ⟨by simp[upd],?_⟩;rw[CS,bg];simp[E.eval,nP,hn,BD]
      .simp at h
     .simp at h
    .simp at h
   .simp at h
 .simp at h
theorem aJ.aoI(h:aJ P N0 w0 ρ S hv a w){r:Nat}{s:Sh}{e e':E}(hr:S.blks[r]?=some ⟨.row s e,false,[]⟩)(he:(e'.eval ρ).toList=(e.eval ρ).toList):
  aJ P N0 w0 ρ {S with blks:=S.blks.set r ⟨.row s e',false,[]⟩} hv a w:=by
 have hrl:r<S.blks.length:=(dF.1 hr).1;have hle:iQ ρ S.blks (S.blks.set r ⟨.row s e',false,[]⟩) hv hv:=aci hr (by rw[he]);have back:∀(q:Nat) (k:aG),(S.blks.set r ⟨.row s e',false,[]⟩)[q]?=some k->∃k0,S.blks[q]?=some k0/\eG k0=eG k/\k0.fI=k.fI/\k0.bM=k.bM:=by
  intro q k hq;by_cases hqr:q=r
  .subst hqr;rw[zw hrl] at hq;injection hq with hq;subst hq;exact ⟨_,hr,rfl,rfl,rfl⟩
  .rw[dN (fun e=>hqr e.symm)] at hq;exact ⟨k,hq,rfl,rfl,rfl⟩
 have hkk:∀b,NN N0 w0.own ρ S.blks hv b->b<w.heap.size->w.heap[b]?=w.heap[b]?/\NN N0 w0.own ρ (S.blks.set r ⟨.row s e',false,[]⟩) hv b:=by
  intro b hb _;refine ⟨rfl,hb.1,fun q k hq hl hf hp=>?_⟩;obtain ⟨k0,h1,h2,h3,h4⟩:=back q k hq;exact hb.2 q k0 h1 (by rw[h2];exact hl) (by rw[h3];exact hf) (by rw[h4];exact hp)
 refine h.step hle h.below (aI _) hkk ?_ ?_
 .intro q k hq hp;by_cases hqr:q=r
  .subst hqr;rw[zw hrl] at hq;injection hq with hq;subst hq;have:=(h.blks q _ hr (aR ρ)).le (aI _) hkk hle rfl fun _ _=>rfl;obtain ⟨et,xs,g1,g2,g3⟩:=this;exact ⟨et,xs,by rw[he];exact g1,by rw[he];exact g2,g3⟩
  .rw[dN (fun e=>hqr e.symm)] at hq;exact (h.blks q k hq hp).le (aI _) hkk hle rfl fun _ _=>rfl
 .intro q1 q2 k1 k2 g h1 h2 hne l1 l2 p1 p2;obtain ⟨k3,a1,a2,_,a4⟩:=back q1 k1 h1;obtain ⟨k4,b1,b2,_,b4⟩:=back q2 k2 h2;exact h.dist q1 q2 k3 k4 g a1 b1 hne (by rw[a2];exact l1) (by rw[b2];exact l2) (by rw[a4];exact p1) (by rw[b4];exact p2)
theorem akL{e off m n:E}{o1 m1:Nat}(ho:(off.eval ρ).toInt=(o1:Int))(hn:(n.eval ρ).toInt=(m1:Int))(hle:o1+m1<=(e.eval ρ).toList.length):
  ((E.splice e off (.sub m (.int 0) n)).eval ρ).toList=(e.eval ρ).toList.take o1++((m.eval ρ).toList.take (min (m.eval ρ).toList.length m1)++(e.eval ρ).toList.drop (o1+min (m.eval ρ).toList.length m1)):=by
 simp only[E.eval,C.kU,C.toInt_int,ho,hn,bO,splice,Int.toNat_zero,pz];have h1:((m.eval ρ).toList.take m1).length=min (m.eval ρ).toList.length m1:=by simp[Nat.min_comm]
 rw[jB (l:=(m.eval ρ).toList.take m1) (by rw[h1];omega),h1];congr 2
 by_cases h:m1<=(m.eval ρ).toList.length
 .rw[Nat.min_eq_right h]
 .rw[Nat.min_eq_left (by omega),jB (by omega),jB (by omega)]
theorem akT(hrel:aJ P N0 w0 ρ S hv a w){ts:Array TypeId}{x y:Operand}(hop:o.op= .call {callee:= .builtin .copy,args:= #[x,y],argTypes:=ts}){sx:SX}{bs':List aG}
  (h:FK P S.blks ts (S.ev P [] x (ts.getD 0 0)) (S.ev P [] y (ts.getD 1 0))=some (sx,bs')):
  o.wp P a w (fun a' w'=>∃hv',aJ P N0 w0 ρ {S with tmps:=cO S.tmps o.dst ⟨[],sx⟩,blks:=bs'} hv' a' w') Q:=by
 unfold FK at h;split at h
 .rename_i et sa sb ht hsa hsb;split at h
  .rename_i s m f r off n hsrc hdst;split at h
   .rename_i s' e hor;split at h
    .rename_i hok;simp only[aP,bR] at hok;obtain ⟨⟨rfl,hfit⟩,hts⟩:=hok;simp only[bQ,fq] at h;obtain ⟨rfl,rfl⟩:=h;obtain ⟨t0,t1,rfl⟩:∃t0 t1,ts= #[t0,t1]:=by
      obtain ⟨tl⟩:=ts;match tl,hts with
      | [t0,t1],_=>exact ⟨t0,t1,rfl⟩
     obtain ⟨d2,news,q1,q2,q3,q4,q5⟩:=Ya hrel hsrc (bC hrel (aR ρ) hsb);have hu:P.underlying t0=some (.slice et):=u7 ht;have hr:=zl hor;have oz:bV S.blks r=some (s,e,[]):=by simp[bV,hr]
     obtain ⟨dV,xs,hown,hrd,hs0⟩:=hrel.rows.row r s e [] oz (aR ρ);obtain ⟨o1,m1,ad,cap,ho,hn,hle,hvx,ha⟩:∃o1 m1 ad cap,(off.eval ρ).toInt=((o1:Nat):Int)/\(n.eval ρ).toInt=((m1:Nat):Int)/\o1+m1<=(e.eval ρ).toList.length/\a.eval x= .slice ad m1 cap/\(0<m1->∃g,bH (hv r)=some g/\ad=some ⟨g,o1*s.size,none⟩):=by
      have dO:=bC hrel (aR ρ) hsa;unfold Kg at hdst;split at hdst
      .simp at hdst;obtain ⟨rfl,rfl,rfl⟩:=hdst;obtain ⟨hv0,hn⟩:=dO.2 s e [] oz (aR ρ);rcases pQ hown with ⟨h5,h6,_⟩|⟨g,cap,h5,_⟩
       .exact ⟨0,(e.eval ρ).toList.length,none,0,by simp[E.eval],hn,by omega,by rw[hv0,h5,h6],fun h=>by omega⟩
       .exact ⟨0,(e.eval ρ).toList.length,_,cap,by simp[E.eval],hn,by omega,by rw[hv0,h5],fun _=>⟨g,by rw[h5];rfl,by simp⟩⟩
      .simp at hdst;obtain ⟨rfl,rfl,rfl⟩:=hdst;obtain ⟨o1,m1,ho,hm,hle,ad,cap,hv1,_,_,ha⟩:=dO.2 s e [] oz (aR ρ);exact ⟨o1,m1,ad,cap,ho,hm,hle,hv1,ha⟩
      .simp at hdst
     have hev:=akL (e:=e) (off:=off) (m:=m) (n:=n) ho hn hle;have hk:Nat.min (m.eval ρ).toList.length m1=min (m.eval ρ).toList.length m1:=rfl;have hres:∀ {bs':List aG} {w':World},bB w' (NN N0 w0.own ρ bs' hv) ρ bs' hv (.dat (.int .i64) (.l9 (ny m) n)) (.int .i64 ((min (m.eval ρ).toList.length m1:Nat):Int)):=by
      intro bs' w';rw[gu];simp[E.eval,BD,hn];omega
     have hfc:=q5 w (min (m.eval ρ).toList.length m1) (fun _ _=>rfl) (Nat.min_le_left _ _);by_cases hk0:min (m.eval ρ).toList.length m1=0
     .have heq:((E.splice e off (.sub m (.int 0) n)).eval ρ).toList=(e.eval ρ).toList:=by rw[hev,hk0];simp
      refine FI (v:= .int .i64 ((min (m.eval ρ).toList.length m1:Nat):Int)) (w':=w) (Lu hop (fun _=>by simp[builtin]) (m:=Builtin.copy_ #[t0,t1] o.type #[a.eval x,a.eval y]) ?_) (hrel.aoI hr heq) hres;rw[hk0] at hfc;simp only[Nat.zero_mul,List.take_zero] at hfc;rw[hvx];cases ad with
      |none=>simp[Builtin.copy_,run_underlying hu,q4,run_sizeOf hfit,hk,hk0,hfc,goInt]
      |some ad=>simp[Builtin.copy_,run_underlying hu,q4,run_sizeOf hfit,hk,hk0,hfc,goInt,storeCells]
     .obtain ⟨g,hg,rfl⟩:=ha (by omega);have hml:(news.take (min (m.eval ρ).toList.length m1*s.size)).length=min (m.eval ρ).toList.length m1*s.size:=by
       have:min (m.eval ρ).toList.length m1*s.size<=news.length:=by rw[q3.length];exact Nat.mul_le_mul_right _ (Nat.min_le_left _ _)
       simp;omega
      obtain ⟨cur,ty,c1,c2,c3⟩:=Y6 (e':= .splice e off (.sub m (.int 0) n)) hrel hr hg (off:=o1*s.size) (us:=news.take (min (m.eval ρ).toList.length m1*s.size)) (by rw[hev];simp;omega) (fun xs hxs hxl=>by
       rw[hml,hev];have hb:(o1+min (m.eval ρ).toList.length m1)*s.size<=(e.eval ρ).toList.length*s.size:=Nat.mul_le_mul_right _ (by omega);rw[Nat.add_mul] at hb;refine ⟨by omega,?_⟩;have h3:=hxs.drop (o1+min (m.eval ρ).toList.length m1);rw[Nat.add_mul] at h3;exact (hxs.take o1).append ((q3.take _).append h3))
      refine FI (v:= .int .i64 ((min (m.eval ρ).toList.length m1:Nat):Int)) (Lu hop (fun _=>by simp[builtin]) (m:=Builtin.copy_ #[t0,t1] o.type #[a.eval x,a.eval y]) ?_) c3 hres;have hst:=run_storeCells_at P g (o1*s.size) ty (news.take (min (m.eval ρ).toList.length m1*s.size)) 0 cur w c1 (by simpa using c2) (fun u hu=>M0 q3 u (yN hu));simp only[Nat.add_zero] at hst;rw[hvx];simp[Builtin.copy_,run_underlying hu,q4,run_sizeOf hfit,hk,hfc,goInt,hst]
    .simp at h
   .simp at h
  .simp at h
 .simp at h
end
section
variable{P:Program}{cfg:dA}{N0:Nat->Prop}{w0:Wb}{ρ:List C}{S:SS}{hv:Nat->Value}{a:Act}{w:World}{o:Oper}{Q:Exit->Act->World->Prop}
theorem Mq{w w':World}{N N':Nat->Prop}{s:Sh}(hs:s.fQ=true):∀ {l:List C} {xs:List Value},bF w N s xs l->bF w' N' s xs l
 | [],_,h=>h
 |_::_,_,⟨u,r,h1,h2,h3⟩=>⟨u,r,h1,I9 hs h2,Mq hs h3⟩
theorem alK{fz:List Nat}{bs:List aG}{r:Nat}(hr:r∉fz):(jN fz bs)[r]?=bs[r]?:=by
 rw[rR];exact Ho fz bs hr
theorem GZ{fz:List Nat}{bs:List aG}{d:Nat}(h:∃k,bs[d]?=some k/\k.lb= .none):∃k,(jN fz bs)[d]?=some k/\k.lb= .none:=by
 induction fz generalizing bs with
 |nil=>exact h
 |cons r l ih=>
  apply ih;obtain ⟨k,h1,h2⟩:=h;by_cases e:r=d
  .subst e;exact ⟨{k with fI:=true},by simp[h1],h2⟩
  .exact ⟨k,by simp[e,h1],h2⟩
theorem zk{B B':Nat->Prop}{et:TypeId}{size:Nat}{v:Value}{n:Nat}{xs:List Value}(h:w.iA B et size v n xs)(hB:∀g,bH v=some g->B g->B' g):w.iA B' et size v n xs:=by
 obtain ⟨h1,h2⟩:=h;refine ⟨h1,?_⟩;rcases h2 with h2|⟨g,cap,cur,h3,h4,h5⟩
 .exact .inl h2
 .exact .inr ⟨g,cap,cur,h3,hB g (by rw[h3];rfl) h4,h5⟩
theorem MJ{f:Nat}{args:Array Operand}{ts:Array TypeId}(hop:o.op= .call {callee:= .value (.func f),args:=args,argTypes:=ts})(hc:tT P f):
  (execOp a.eval o).run P w= .ok (.enter f (args.toList.map a.eval).toArray) w:=by
 obtain ⟨fn,hfn,hbody,hname⟩:=hc;have hn:¬fn.name= "runtime.NumGoroutine" :=by simpa using hname
 have hb:¬fn.body=none:=by intro h;simp[h] at hbody
 have harr:(args.toList.map a.eval).toArray=args.map a.eval:=by apply Array.ext';simp
 rw[harr];simp[execOp,hop,resolve,Deferred.ofValue,Act.eval,invoke,callFunc,hfn,hn,hb]
theorem Zq{fz:List Nat}{bs:List aG}{q:Nat}{k:aG}(h:(aW (fz.map .aV) bs)[q]?=some k)(hf:k.fI=false):q∉fz/\bs[q]?=some k:=by
 by_cases hq:q∈fz
 .rw[aao fz hq h] at hf;cases hf
 .exact ⟨hq,by rw[Ho fz bs hq] at h;exact h⟩
theorem ZL(hrel:aJ P N0 w0 ρ S hv a w){fz:List Nat}(hf:∀q∈fz,jy S.blks ρ q){v0 v1:Value}{d:Nat}{bs':List aG}
  (hv0:∀g,bH v0=some g->w0.own g) (hq:∀q k,q≠d->bs'[q]?=some k->eG k=true->k.fI=false->q∉fz/\S.blks[q]?=some k/\∀b,aS ρ k.bM->bH v0=some b->bH (hv q)≠some b)
  {b:Nat} (h:Behind (NF (NN N0 w0.own ρ S.blks hv) hv fz) w v0 v1 b):NN N0 w0.own ρ bs' (upd hv d v1) b:=by
 obtain ⟨h1,h2⟩:=h;have hrow:∀r∈fz,∀g,bH (hv r)=some g->w0.own g/\∃k,S.blks[r]?=some k/\eG k=true/\aS ρ k.bM:=by
  intro r hr g hg;obtain ⟨k,e3,el,e2⟩:=hf r hr;exact ⟨(hrel.lt e3 el e2 hg).2,k,e3,el,e2⟩
 refine ⟨?_,fun q k hqk hl hfz hp=>?_⟩
 .rcases h1 with (h1|⟨r,hr,hg⟩)|h1|h1
  .exact h1.1
  .exact .inr (hrow r hr b hg).1
  .exact .inr (.inl (kL hrel.below.size h1))
  .exact .inr (hv0 b h1)
 .by_cases mZ:q=d
  .subst mZ;simpa [upd] using h2
  .simp only[upd,if_neg mZ];obtain ⟨g1,g2,g3⟩:=hq q k mZ hqk hl hfz;rcases h1 with (h1|⟨r,hr,hg⟩)|h1|h1
   .exact h1.2 q k g2 hl hfz hp
   .obtain ⟨_,k',e1,e2,e3⟩:=hrow r hr b hg;exact hrel.dist r q k' k b e1 g2 (fun e=>g1 (e▸hr)) e2 hl e3 hp hg
   .intro hc;have:=(hrel.lt g2 hl hp hc).1;omega
   .exact g3 b hp h1
theorem anx(v:Value):pack [v]=v:=by simp[pack]
theorem amq{v:Value}{vr:List Value}(h:vr≠[]):pack (v::vr)= .tuple (v::vr).toArray:=by
 unfold pack;rw[dif_neg];cases vr with
 |nil=>exact absurd rfl h
 |cons _ _=>simp
theorem VU{bs:List aG}{N:Nat->Prop}{d nv:Nat}{s:Sh}{aF:List Sh}{v1:Value}{vr:List Value}(hd:bs[d]?=some ⟨.row s (.vq nv),false,[]⟩)(hv1:hv d=v1)
  (hr:dH w N (dS ρ (iq (nv+1) aF)) vr):bB w N ρ bs hv (vF d nv aF) (pack (v1::vr)):=by
 have hk:known bs d:=⟨_,hd,by simp⟩;have hrow:∀s' e p,bV bs d=some (s',e,p)->aS ρ p->v1=hv d/\(((E.vq nv).len).eval ρ).toInt=((e.eval ρ).toList.length:Int):=by
  intro s' e p h _;simp[bV,hd] at h;obtain ⟨rfl,rfl,rfl⟩:=h;exact ⟨hv1.symm,rfl⟩
 unfold vF;split
 .rename_i h0;subst h0;simp only[iq,dS,jI,dH] at hr;subst hr;rw[anx];exact ⟨hk,hrow⟩
 .rename_i h0;have hne:vr≠[]:=by
   intro e;subst e;cases aF with
   |nil=>exact h0 rfl
   |cons r l=>obtain ⟨_,_,h,_⟩:=hr;cases h
  rw[amq hne];exact ⟨hk,v1,vr,rfl,hrow,hr,KZ aF (nv+1)⟩
theorem Zb{aF:List Sh}{nv:Nat}(h:aF.all Sh.fQ=true)(hl:nv+aF.length<=ρ.length):∀x∈dS ρ (iq nv aF),x.1.fQ=true:=by
 intro x hx;rw[Bj aF nv hl] at hx;simp only[nE] at h;exact h _ (List.of_mem_zip hx).1
theorem Zr(hrel:aJ P N0 w0 ρ S hv a w){fz:List Nat}(hfz:∀q∈fz,jy S.blks ρ q){d:Nat}(hnew:∃k,S.blks[d]?=some k/\k.lb= .none){s:Sh}{aF:List Sh}(hs0:0<s.size)
  {w':World} {v1:Value} {vr:List Value} {dV:TypeId} {cs':List Value} (hbel:Below w.heap.size w w')
  (g2:w'.iA (fun g=>w.heap.size<=g) dV s.size v1 ((E.vq S.nv).eval ρ).toList.length cs')
  (g3:bF w' (Behind (NF (NN N0 w0.own ρ S.blks hv) hv fz) w (.slice none 0 0) v1) s cs' ((E.vq S.nv).eval ρ).toList)
  (g4:dH w' (Behind (NF (NN N0 w0.own ρ S.blks hv) hv fz) w (.slice none 0 0) v1) (dS ρ (iq (S.nv+1) aF)) vr) (hlen:S.nv+1+aF.length<=ρ.length):
  ∃hv',aJ P N0 w0 ρ {tmps:=cO S.tmps o.dst ⟨[],vF d S.nv aF⟩,blks:=(jN (kD s aF fz) S.blks).set d ⟨.row s (.vq S.nv),false,[]⟩,nv:=S.nv+(1+aF.length)} hv' (a.put o.dst (pack (v1::vr))) w':=by
 refine ⟨upd hv d v1,?_⟩;have H1:=hrel.AB (kD s aF fz);rw[<-rR] at H1;have hdb:((jN (kD s aF fz) S.blks).set d ⟨.row s (.vq S.nv),false,[]⟩)[d]?=some ⟨.row s (.vq S.nv),false,[]⟩:=by
  obtain ⟨k,hk,_⟩:=GZ (fz:=kD s aF fz) hnew;have:=(dF.1 hk).1;rw[zw (by simpa using this)]
 have F4:(s.fQ&&aF.all Sh.fQ)=false->∀b,Behind (NF (NN N0 w0.own ρ S.blks hv) hv fz) w (.slice none 0 0) v1 b->
   NN N0 w0.own ρ ((jN (kD s aF fz) S.blks).set d ⟨.row s (.vq S.nv),false,[]⟩) (upd hv d v1) b:=by
  intro hpr b hb;refine ZL hrel hfz (fun g hg=>by cases hg) (fun q k mZ hq hl hfr=>?_) hb;rw[dN (fun e=>mZ e.symm),rR] at hq;obtain ⟨q1,q2⟩:=Zq hq hfr;refine ⟨?_,q2,fun b' hp hb'=>by cases hb'⟩;unfold kD at q1;rwa[hpr] at q1
 have H2:=(H1.new (GZ hnew) (.row s (.vq S.nv)) [] v1 hbel
  (fun g hg=>by
   rcases g2.2 with ⟨g5,_⟩|⟨g',cap,cur,g5,g6,_⟩
   .rw[g5] at hg;cases hg
   .rw[g5] at hg;injection hg with hg;subst hg;exact g6)
  (fun _=>by
   refine ⟨dV,cs',?_,?_,hs0⟩
   .simp only[upd,if_true];exact zk g2 fun g _ hg=> .inl (kL hrel.below.size hg)
   .by_cases hpr:(s.fQ&&aF.all Sh.fQ)=true
    .simp only[aP] at hpr;exact Mq hpr.1 g3
    .exact g3.mono (aI _) fun b hb _=>⟨rfl,F4 (by simpa using hpr) b hb⟩)).1
 refine (H2.put o.dst [] _ _ (fun _=>?_) (fun h=>absurd (aR ρ) h)).nv _;refine VU hdb (by simp[upd]) ?_;by_cases hpr:(s.fQ&&aF.all Sh.fQ)=true
 .simp only[aP] at hpr;exact Ig (Zb hpr.2 hlen) g4
 .exact g4.mono (aI _) fun b hb _=>⟨rfl,F4 (by simpa using hpr) b hb⟩
theorem akD(hrel : aJ P N0 w0 ρ S hv a w){f d : Nat}{args : Array Operand}{ts : Array TypeId}(hop : o.op = .call { callee := .value (.func f), args := args, argTypes := ts })
    {x : SX} {bs' : List aG} {obs : List Ob} {n : Nat} (h : Cq P (S.ev P) S.blks S.nv o.type d f args.toList ts.toList = some (x, bs', obs, n)) (ho : dB P ρ S.nv obs) :
    o.wp P a w (fun a' w' => ∃ hv', aJ P N0 w0 ρ { tmps := cO S.tmps o.dst ⟨[], x⟩, blks := bs', nv := S.nv + n } hv' a' w') Q := by
  unfold Cq at h;split at h
  . rename_i s aF x0 xs hrt hargs
    split at h
    . rename_i l fz ha
      split at h
      . rename_i hok
        simp only [aP, bR] at hok;obtain ⟨hs0, hfree, hf⟩ := hok;have hs0 : 0 < s.size := by simp at hs0; omega
        have hnew := Hl hfree;have hdl : d < S.blks.length := by obtain ⟨k, hk, _⟩ := hnew; exact (dF.1 hk).1
        obtain ⟨hfz, PI⟩ := Bq hrel.rows (aR ρ) (fun o t x => bC hrel (aR ρ)) ha;have hlist : args.toList.map a.eval = a.eval x0 :: xs.map a.eval := by rw [hargs]; rfl
        have contract : ∀ e, dB P ρ S.nv [.call [] (1000000 + f) ((.sl s, e) :: l) (.sl s :: aF)] -> ∀ (et : TypeId) (cs : List Value), w.iA (fun _ => True) et s.size (a.eval x0) (e.eval ρ).toList.length cs ->
            bF w (NF (NN N0 w0.own ρ S.blks hv) hv fz) s cs (e.eval ρ).toList -> (∀ g, bH (a.eval x0) = some g -> ¬ NF (NN N0 w0.own ρ S.blks hv) hv fz g) -> (∀ g, bH (a.eval x0) = some g -> ¬ uW P g) ->
            ∀ {R : Ending -> World -> Prop}, (∀ (w' : World) (v1 : Value) (vr : List Value) (dV : TypeId) (cs' : List Value), w.grownBy w' (bH (a.eval x0)) ->
              w'.iA (fun g => w.heap.size <= g \/ bH (a.eval x0) = some g) dV s.size v1 ((E.vq S.nv).eval ρ).toList.length cs' ->
              bF w' (Behind (NF (NN N0 w0.own ρ S.blks hv) hv fz) w (a.eval x0) v1) s cs' ((E.vq S.nv).eval ρ).toList ->
              dH w' (Behind (NF (NN N0 w0.own ρ S.blks hv) hv fz) w (a.eval x0) v1) (dS ρ (iq (S.nv + 1) aF)) vr -> S.nv + 1 + aF.length <= ρ.length -> R (.returned (pack (v1 :: vr))) w') ->
            tT P f /\ Calls P f (args.toList.map a.eval).toArray w R := by
          intro e lV et cs h1 h2 h3 h5 R hR;obtain ⟨hpc, hlen⟩ := lV.1 (aR ρ);have hlen : S.nv + (1 + aF.length) <= ρ.length := by
            rcases hlen with h0 | hlen
            . cases h0
            . simp only [bn] at hlen; omega
          have hev := Bj (ρ := ρ) (.sl s :: aF) S.nv (by simp only [bn]; omega);rw [<- hev] at hpc;obtain ⟨s', c0, args', c1, p9, ea, er, AA, hcall⟩ := hpc.toG hf;simp only [dS, eZ, iJ, fq, Sh.sl.injEq] at ea;obtain ⟨⟨rfl, rfl⟩, rfl⟩ := ea;simp only [iq, dS, eZ, iJ, fq, true_and] at er;obtain ⟨rfl, rfl⟩ := er;refine ⟨AA, ?_⟩;rw [hlist];refine (hcall w _ et cs (a.eval x0) (xs.map a.eval) hrel.below.now h5 h1 h2 h3 PI).mono fun en w' => ?_;rintro ⟨v1, vr, dV, cs', rfl, g1, g2, g3, g4⟩;exact hR w' v1 vr dV cs' g1 g2 g3 g4 (by omega)
        split at h
        . rename_i r m hx0
          split at h
          . rename_i s' e hor
            split at h
            . rename_i hok2
              simp only [aP, bR, Bool.not_eq_true'] at hok2;obtain ⟨rfl, hnr⟩ := hok2;have hnr : r ∉ fz := by simpa using hnr
              simp only [bQ, fq] at h;obtain ⟨rfl, rfl, rfl, rfl⟩ := h;have hr := zl hor;have oz : bV S.blks r = some (s, e, []) := by simp [bV, hr]
              obtain ⟨hv0, _⟩ := (bC hrel (aR ρ) hx0).2 s e [] oz (aR ρ);obtain ⟨et, cs, hown, hrd, _⟩ := hrel.rows.row r s e [] oz (aR ρ);have hsub : ∀ q ∈ kD s aF fz, q ∈ fz := by
                intro q hq;unfold kD at hq;split at hq
                . cases hq
                . exact hq
              have aq6 : r ∉ kD s aF fz := fun hc => hnr (hsub r hc);have H1 := hrel.AB (kD s aF fz);rw [<- rR] at H1;have hr1 : (jN (kD s aF fz) S.blks)[r]? = some ⟨.row s e, false, []⟩ := by rw [alK aq6]; exact hr
              have J6 : r ≠ d := by
                rintro rfl;obtain ⟨k, hk, hk2⟩ := hnew;rw [hr] at hk;injection hk with hk;subst hk;cases hk2
              obtain ⟨AA, hcall⟩ := contract e ho et cs (by rw [hv0]; exact zk hown fun _ _ _ => trivial) (hrd.mono (aI _) fun b hb _ => ⟨rfl, .inl hb⟩)
                (by
                  intro g hg hn;rw [hv0] at hg;rcases hn with hn | ⟨q, hq, hqg⟩
                  . exact hn.2 r _ hr rfl rfl (aR ρ) hg
                  . obtain ⟨k2, e5, el, e4⟩ := hfz q hq
                    exact hrel.dist r q _ _ g hr e5 (fun e => hnr (e ▸ hq)) rfl el (aR ρ) e4 hg hqg)
                (by intro g hg; rw [hv0] at hg; exact hrel.below.own (hrel.lt hr rfl (aR ρ) hg).2)
                (R := fun en w' => ∃ v, en = .returned v /\ ∃ hv', aJ P N0 w0 ρ { tmps := cO S.tmps o.dst ⟨[], vF d S.nv aF⟩, blks := ((jN (kD s aF fz) S.blks).set r ⟨.dead, false, []⟩).set d ⟨.row s (.vq S.nv), false, []⟩, nv := S.nv + (1 + aF.length) } hv' (a.put o.dst v) w')
                (by
                  intro w' v1 vr dV cs' g1 g2 g3 g4 hlen;rw [hv0] at g1 g2 g3 g4;refine ⟨_, rfl, upd hv d v1, ?_⟩;have hown1 : ∀ g, bH (hv r) = some g -> w0.own g := fun g hg => (hrel.lt hr rfl (aR ρ) hg).2;have hdb : (((jN (kD s aF fz) S.blks).set r ⟨.dead, false, []⟩).set d ⟨.row s (.vq S.nv), false, []⟩)[d]? = some ⟨.row s (.vq S.nv), false, []⟩ := by
                    obtain ⟨k, hk, _⟩ := GZ (fz := kD s aF fz) hnew;have := (dF.1 hk).1;rw [zw (by simpa using this)]
                  have F4 : (s.fQ && aF.all Sh.fQ) = false -> ∀ b, Behind (NF (NN N0 w0.own ρ S.blks hv) hv fz) w (hv r) v1 b ->
                      NN N0 w0.own ρ (((jN (kD s aF fz) S.blks).set r ⟨.dead, false, []⟩).set d ⟨.row s (.vq S.nv), false, []⟩) (upd hv d v1) b := by
                    intro hpr b hb;refine ZL hrel hfz hown1 (fun q k mZ hq hl hfr => ?_) hb;rw [dN (fun e => mZ e.symm)] at hq;have hqr : q ≠ r := by
                      rintro rfl;have hlr := (dF.1 hr1).1;rw [zw hlr] at hq;injection hq with hq;subst hq;cases hl
                    rw [dN (fun e => hqr e.symm), rR] at hq;obtain ⟨q1, q2⟩ := Zq hq hfr;refine ⟨?_, q2, fun b' hp hb' => hrel.dist r q _ k b' hr q2 (fun e => hqr e.symm) rfl hl (aR ρ) hp hb'⟩;unfold kD at q1;rwa [hpr] at q1
                  have H2 := H1.grows hr1 (GZ hnew) (v' := v1) (w' := w') (lb := .row s (.vq S.nv)) rfl g1
                    (fun g hg => by
                      rcases g2.2 with ⟨g5, _⟩ | ⟨g', cap, cur, g5, g6, _⟩
                      . rw [g5] at hg; cases hg
                      . rw [g5] at hg
                        injection hg with hg;subst hg;exact g6.symm)
                    (fun hkk => by
                      refine ⟨dV, cs', ?_, ?_, hs0⟩
                      . simp only [upd, if_true]
                        exact zk g2 fun g _ hg => hg.elim (fun h => .inl (kL hrel.below.size h)) (hown1 g)
                      . by_cases hpr : (s.fQ && aF.all Sh.fQ) = true
                        . simp only [aP] at hpr
                          exact Mq hpr.1 g3
                        . exact g3.mono (aI _) fun b hb _ => ⟨rfl, F4 (by simpa using hpr) b hb⟩)
                  refine (H2.put o.dst [] _ _ (fun _ => ?_) (fun h => absurd (aR ρ) h)).nv _;refine VU hdb (by simp [upd]) ?_;by_cases hpr : (s.fQ && aF.all Sh.fQ) = true
                  . simp only [aP] at hpr
                    exact Ig (Zb hpr.2 hlen) g4
                  . exact g4.mono (aI _) fun b hb _ => ⟨rfl, F4 (by simpa using hpr) b hb⟩)
              unfold Oper.wp;rw [MJ hop AA, Oper.upon_enter];refine hcall.mono fun en w' => ?_;rintro ⟨v, rfl, hv', hR⟩;exact ⟨hv', hR⟩
            . simp at h
          . simp at h
        . rename_i s' hx0
          split at h
          . rename_i hss
            subst hss;simp only [bQ, fq] at h;obtain ⟨rfl, rfl, rfl, rfl⟩ := h;obtain ⟨vs, e1, e2, e3⟩ := bC hrel (aR ρ) hx0;simp only [Exact] at e3;subst e3;have hv0 : a.eval x0 = .slice none 0 0 := by rw [e2]; simp [Sh.mk, Sh.isAgg]
            obtain ⟨AA, hcall⟩ := contract .aK ho 0 [] (by rw [hv0]; exact ⟨by simp [E.eval], .inl ⟨rfl, by simp [E.eval]⟩⟩) (by simp [E.eval, bF]) (by intro g hg; rw [hv0] at hg; cases hg) (by intro g hg; rw [hv0] at hg; cases hg)
              (R := fun en w' => ∃ v, en = .returned v /\ ∃ hv', aJ P N0 w0 ρ { tmps := cO S.tmps o.dst ⟨[], vF d S.nv aF⟩, blks := (jN (kD s aF fz) S.blks).set d ⟨.row s (.vq S.nv), false, []⟩, nv := S.nv + (1 + aF.length) } hv' (a.put o.dst v) w')
              (by
                intro w' v1 vr dV cs' g1 g2 g3 g4 hlen;rw [hv0] at g1 g2 g3 g4;have hbel : Below w.heap.size w w' := ⟨g1.os, g1.tape, g1.output, g1.size, fun k hk => g1.block k hk (by simp [bH])⟩;exact ⟨_, rfl, Zr hrel hfz hnew hs0 hbel (zk g2 fun g _ hg => hg.elim id (fun h => by cases h)) g3 g4 hlen⟩)
            unfold Oper.wp;rw [MJ hop AA, Oper.upon_enter];refine hcall.mono fun en w' => ?_;rintro ⟨v, rfl, hv', hR⟩;exact ⟨hv', hR⟩
          . simp at h
        . simp at h
      . simp at h
    . simp at h
  . simp at h
theorem ajW(hrel:aJ P N0 w0 ρ S hv a w){f d:Nat}{args:Array Operand}{ts:Array TypeId}(hop:o.op= .call {callee:= .value (.func f),args:=args,argTypes:=ts})
  {x:SX} {bs':List aG} {obs:List Ob} {n:Nat} (h:Aa P (S.ev P) S.blks S.nv o.type d f args.toList ts.toList=some (x,bs',obs,n)) (ho:dB P ρ S.nv obs):
  o.wp P a w (fun a' w'=>∃hv',aJ P N0 w0 ρ {tmps:=cO S.tmps o.dst ⟨[],x⟩,blks:=bs',nv:=S.nv+n} hv' a' w') Q:=by
 unfold Aa at h;split at h
 .rename_i s aF hrt;split at h
  .rename_i l fz ha;split at h
   .rename_i hok;simp only[aP,bR] at hok;obtain ⟨hs0,hfree,arb⟩:=hok;have hs0:0<s.size:=by simp at hs0;omega
    have hnew:=Hl hfree;obtain ⟨hfz,PI⟩:=Bq hrel.rows (aR ρ) (fun o t x=>bC hrel (aR ρ)) ha;simp only[bQ,fq] at h;obtain ⟨rfl,rfl,rfl,rfl⟩:=h;obtain ⟨hpc,hlen⟩:=ho.1 (aR ρ);have hlen:S.nv+(1+aF.length)<=ρ.length:=by
     rcases hlen with h0|hlen
     .cases h0
     .simp only[bn] at hlen;omega
    have hev:=Bj (ρ:=ρ) (.sl s::aF) S.nv (by simp only[bn];omega);rw[<-hev] at hpc;obtain ⟨s',c1,p9,er,AA,hcall⟩:=hpc.toF arb;simp only[iq,dS,eZ,iJ,fq,Sh.sl.injEq] at er;obtain ⟨⟨rfl,rfl⟩,rfl⟩:=er;unfold Oper.wp;rw[MJ hop AA,Oper.upon_enter];refine (hcall w _ _ hrel.below.now PI).mono fun en w'=>?_;rintro ⟨v1,vr,dV,cs',rfl,g1,g2,g3,g4⟩;exact Zr hrel hfz hnew hs0 g1 g2 g3 g4 (by omega)
   .simp at h
  .simp at h
 .simp at h
theorem amy(hrel:aJ P N0 w0 ρ S hv a w){x:SX}{bs':List aG}{obs:List Ob}{n:Nat}(h:tu P cfg o (S.ev P) S.blks S.nv=some (x,bs',obs,n))(ho:dB P ρ S.nv obs):
  o.wp P a w (fun a' w'=>∃hv',aJ P N0 w0 ρ {tmps:=cO S.tmps o.dst ⟨[],x⟩,blks:=bs',nv:=S.nv+n} hv' a' w') Q:=by
 unfold tu at h;split at h
 .rename_i f args ts d hop hd;split at h
  .exact akD hrel hop h ho
  .split at h
   .exact ajW hrel hop h ho
   .simp at h
 .simp at h
end
section
variable{P:Program}{cfg:dA}{rb:Rb}{ev:Ev}{pc:aM}{nv:Nat}{o:Oper}{out:Out}
def Cg(rb:Rb)(pc:aM)(dst:Option Tmp)(cs:List dM):Prop:=
 (∃f:List Nat,cs=f.map dM.aV)\/∃d lb,dst=some d/\cs=[dM.put d ⟨lb,false,pc⟩]/\gW rb d=true
theorem jZ(rb:Rb)(pc:aM)(dst:Option Tmp):Cg rb pc dst []:=Or.inl ⟨[],rfl⟩
theorem am3{raw:Bool}{op:BinOp}{xt:TypeId}{s s':Sh}{x y:E}(h:vX P raw pc op xt s x s' y=some out):out.cmds=[]:=by
 unfold vX at h;repeat' split at h
 all_goals first|(simp at h;done)|(simp at h;subst h;rfl)|(injection h with h;subst h;rfl)
theorem Z7(h:sI P o pc ev=some out):out.cmds=[]/\out.nv=0/\eP out.obs=0:=by
 unfold sI at h;repeat' split at h
 all_goals first|(simp at h;done)|(simp at h;subst h;simp[eP,Ob.vars];done)|(injection h with h;subst h;simp[eP,Ob.vars])
theorem MB(h:fA P cfg o pc ev rb nv=some out):(Bz pc=true/\out= {x:= .none})\/(Bz pc=false/\sI P o pc ev=some out)\/(Bz pc=false/\sI P o pc ev=none/\jA P cfg o pc ev rb nv=some out):=by
 unfold fA at h;split at h
 .rename_i hf;injection h with h;exact .inl ⟨hf,h.symm⟩
 .rename_i hf;split at h
  .rename_i out' hx;injection h with h;subst h;exact .inr (.inl ⟨by simpa using hf,hx⟩)
  .rename_i hx;exact .inr (.inr ⟨by simpa using hf,hx,h⟩)
theorem YK{t:TypeId}{f:Nat}{pre:List (Sh×E)}{args:List Operand}{ts:List TypeId}{d:Option Tmp}(h:oP P cfg ev rb pc nv t f pre args ts=some out):Cg rb pc d out.cmds:=by
 unfold oP at h;split at h
 .split at h
  .rename_i aF _ _ _;simp only[bQ] at h;subst h;by_cases hp:(‹List Sh›).all Sh.fQ=true
   .simp only[hp,if_true];exact jZ _ _ _
   .simp only[hp];exact Or.inl ⟨_,rfl⟩
  .simp at h
 .simp at h
theorem anA(h:pE P cfg o pc ev rb nv=some out):Cg rb pc o.dst out.cmds:=by
 unfold pE at h;split at h
 .repeat' split at h
  all_goals first|exact YK h|simp at h
 .simp at h
 .repeat' split at h
  all_goals first|exact YK h|simp at h
 .repeat' split at h
  all_goals first|(simp at h;done)|(injection h with h;subst h;exact jZ _ _ _)
 .split at h
  .rename_i d _ hd;split at h
   .split at h
    .rename_i hok;simp only[aP] at hok;injection h with h;subst h;exact .inr ⟨_,_,hd,rfl,hok.1⟩
    .simp at h
   .simp at h
  .simp at h
 .split at h
  .rename_i d _ _ hd;split at h
   .rename_i hok;injection h with h;subst h;exact .inr ⟨_,_,hd,rfl,hok⟩
   .simp at h
  .simp at h
 .simp at h
theorem amv(h:jA P cfg o pc ev rb nv=some out):Cg rb pc o.dst out.cmds:=by
 unfold jA at h;split at h
 case h_1=>split at h<;>simp at h;subst h;exact jZ _ _ _
 case h_2=>split at h<;>simp at h;subst h;exact jZ _ _ _
 case h_3=>
  unfold FD at h;repeat' split at h
  all_goals first|(simp at h;done)|(simp at h;subst h;exact jZ _ _ _)
 case h_4=>
  split at h
  .rw[am3 h];exact jZ _ _ _
  .simp at h
 case h_5=>
  unfold Gd at h;split at h<;>first|(simp at h;done)|(simp at h;subst h;exact jZ _ _ _)
 case h_6=>
  unfold Ct at h;repeat' split at h
  all_goals first|(simp at h;done)|(simp at h;subst h;exact jZ _ _ _)
 case h_7=>
  repeat' split at h
  all_goals first|(simp at h;done)|(simp at h;subst h;exact jZ _ _ _)
 case h_8=>
  unfold E5 at h;repeat' split at h
  all_goals first|(simp at h;done)|(simp at h;subst h;exact jZ _ _ _)
 case h_9=>
  unfold zS at h;repeat' split at h
  all_goals first|(simp at h;done)|(simp at h;subst h;exact Or.inl ⟨_,rfl⟩)
 case h_10=>
  split at h
  .unfold zK at h;split at h
   .rename_i et d _ hd;split at h
    .simp at h
    .split at h
     .rename_i hok;split at h
      .simp at h;subst h;simp only[aP] at hok;exact Or.inr ⟨d,_,hd,rfl,hok.1.1.1.1.1⟩
      .simp at h
     .simp at h
   .simp at h
  .unfold zF at h;repeat' split at h
   all_goals first|(simp at h;done)|(simp at h;subst h;exact Or.inl ⟨_,rfl⟩)
 case h_11=>
  unfold Ad at h;split at h
  .rename_i s d _ hd;split at h
   .split at h
    .rename_i hok;simp at h;subst h;simp only[aP] at hok;exact Or.inr ⟨d,_,hd,rfl,hok.1.1⟩
    .simp at h
   .simp at h
  .simp at h
 case h_12=>
  unfold CV at h;split at h
  .rename_i s e d _ hd;split at h
   .rename_i hok;simp at h;subst h;simp only[aP] at hok;exact Or.inr ⟨d,_,hd,rfl,hok.1⟩
   .simp at h
  .rename_i r n d _ hd;split at h
   .split at h
    .rename_i hok;simp at h;subst h;simp only[aP] at hok;exact Or.inr ⟨d,_,hd,rfl,hok.1⟩
    .simp at h
   .simp at h
  .simp at h
 case h_13=>
  unfold vK at h;repeat' split at h
  all_goals first|(simp at h;done)|(simp at h;subst h;first|exact jZ _ _ _|exact Or.inl ⟨_,rfl⟩)
 case h_14=>
  unfold CF at h;repeat' split at h
  all_goals first|(simp at h;done)|(simp at h;subst h;exact jZ _ _ _)
 case h_15=>
  unfold Cc at h;repeat' split at h
  all_goals first|(simp at h;done)|(simp at h;subst h;exact jZ _ _ _)
 case h_16=>
  unfold vI vC vZ at h;repeat' split at h
  all_goals first|(simp at h;done)|(simp at h;subst h;exact jZ _ _ _)
 case h_17=>
  unfold ES at h;repeat' split at h
  all_goals first|(simp at h;done)|(simp at h;subst h;exact jZ _ _ _)
 case h_18=>
  unfold zU at h;repeat' split at h
  all_goals first|(simp at h;done)|(simp at h;subst h;exact jZ _ _ _)
 case h_19=>
  unfold Aj at h;split at h
  .rename_i et kl l kc c d _ _ _ hd;split at h
   .simp at h
   .split at h
    .split at h
     .rename_i hok;simp at h;subst h;simp only[aP] at hok;exact Or.inr ⟨d,_,hd,rfl,hok.1.1.1⟩
     .simp at h
    .simp at h
  .simp at h
 case h_20=>
  unfold rU CG yR at h;repeat' split at h
  all_goals first|(simp at h;done)|(simp at h;subst h;exact jZ _ _ _)
 case h_21=>
  split at h
  .simp at h
  split at h
  .unfold vO at h;split at h
   .simp only[bQ] at h;subst h;exact jZ _ _ _
   .simp at h
  unfold vN at h;split at h
  .split at h
   .simp only[bQ] at h;subst h;by_cases hp:(‹List Sh›).all Sh.fQ=true
    .simp only[hp,if_true];exact jZ _ _ _
    .simp only[hp];exact Or.inl ⟨_,rfl⟩
   .simp at h
  .simp at h
 case h_22=>exact anA h
theorem anB(h:fA P cfg o pc ev rb nv=some out):Cg rb pc o.dst out.cmds:=by
 rcases MB h with ⟨_,rfl⟩|⟨_,h⟩|⟨_,_,h⟩
 .exact jZ _ _ _
 .rw[(Z7 h).1];exact jZ _ _ _
 .exact amv h
end
section
variable{P:Program}{cfg:dA}{N0:Nat->Prop}{w0:Wb}{ρ:List C}{S S':SS}{hv:Nat->Value}{a:Act}{w:World}{o:Oper}{Q:Exit->Act->World->Prop}{obs:List Ob}
theorem alj(hrel:aJ P N0 w0 ρ S hv a w){pc:aM}(hp:¬aS ρ pc){out:Out}(hc:Cg S.rb pc o.dst out.cmds):
  ∃hv',aJ P N0 w0 ρ {tmps:=cO S.tmps o.dst ⟨pc,out.x⟩,blks:=aW out.cmds S.blks,nv:=S.nv+out.nv} hv' (a.put o.dst undef) w:=by
 rcases hc with ⟨f,hc⟩|⟨d,lb,hd,hc,hn⟩
 .rw[hc];exact ⟨hv,((hrel.AB f).put o.dst pc out.x undef (fun h=>absurd h hp) (fun _=>rfl)).nv _⟩
 .rw[hc];have h1:=(hrel.new (DY hn) lb pc undef (Below.refl _ _) (fun g hg=>by simp[bH,undef] at hg) (fun h=>absurd h hp)).1;exact ⟨_,(h1.put o.dst pc out.x undef (fun h=>absurd h hp) (fun _=>rfl)).nv _⟩
theorem akC(hrel:aJ P N0 w0 ρ S hv a w){ops:List Oper}{pc:aM}(h:qG S ops o=some pc):
  (aS ρ pc->Region.wanted o (yielded ops.toArray a.tmps)=true)/\(¬aS ρ pc->Region.wanted o (yielded ops.toArray a.tmps)=false):=by
 unfold qG at h;unfold Region.wanted;split at h
 .rename_i hg;simp at h;subst h;rw[hg];exact ⟨fun _=>rfl,fun h=>absurd (aR ρ) h⟩
 .rename_i j want hg;rw[hg];split at h
  .rename_i p e ht;simp at h;subst h;obtain ⟨d,hd,hts⟩:=qx.1 ht;have hlt:d<a.tmps.size:=by rw[hrel.wB];exact (dF.1 hts).1
   have hy:∀v,a.tmps.getD d undef=v->yielded ops.toArray a.tmps j=(match v with| .bool b=>some b|_=>none):=by
    intro v hv;have h1:a.tmps[d]?=some v:=by rw[Gc hlt];simpa [Array.getD,hlt] using hv
    unfold yielded;have h2:(ops.toArray[j]?).bind (·.dst)=some d:=by simpa using hd
    rw[h2];simp[h1];cases v<;>rfl
   constructor
   .intro hp;obtain ⟨h1,h2⟩:=Bh.1 hp;rw[Bg] at h2;have h3:=hrel.tmps d _ hts h1;rw[jr] at h3;simp[hy _ h3,h2]
   .intro hp;by_cases h1:aS ρ p
    .have h3:=hrel.tmps d _ hts h1;rw[jr] at h3;have h4:¬(e.eval ρ).toBool=want:=fun h=>hp (Bh.2 ⟨h1,Bg.2 h⟩);simp[hy _ h3];exact h4
    .have h3:=hrel.und d _ hts h1;simp[hy _ h3,undef]
  .simp at h
theorem amw(hrel:aJ P N0 w0 ρ S hv a w){x:SX}{bs':List aG}(h:tq P cfg o (S.ev P) S.blks=some (x,bs',obs))(ho:dB P ρ S.nv obs):
  o.wp P a w (fun a' w'=>∃hv',aJ P N0 w0 ρ {S with tmps:=cO S.tmps o.dst ⟨[],x⟩,blks:=bs'} hv' a' w') Q:=by
 unfold tq at h;split at h
 .rename_i t ad y hop;split at h
  .rename_i Bb hb;simp at h;obtain ⟨rfl,rfl,rfl⟩:=h;exact ajv hrel hop hb
  .simp at h
 .rename_i args ts hop;split at h
  .rename_i x1 y1 d hargs hd;obtain ⟨al⟩:=args;simp only at hargs;subst hargs;exact ajq hrel hop h ho
  .simp at h
 .rename_i args ts hop;split at h
  .rename_i x1 y1 hargs;obtain ⟨al⟩:=args;simp only at hargs;subst hargs;split at h
   .rename_i x2 Bb hb;simp at h;obtain ⟨rfl,rfl,rfl⟩:=h;exact akT hrel hop hb
   .simp at h
  .simp at h
 .rename_i src dst x1 hop;split at h
  .rename_i hsd;subst hsd;split at h
   .rename_i s e r hb;simp at h;obtain ⟨rfl,rfl,rfl⟩:=h;exact akw hrel hop hb
   .simp at h
  .simp at h
 .rename_i t m k x1 hop;split at h
  .rename_i r b hb;simp at h;obtain ⟨rfl,rfl,rfl⟩:=h;exact akr hrel hop hb
  .simp at h
 .rename_i it hop;split at h
  .rename_i x1 r b hb;simp at h;obtain ⟨rfl,rfl,rfl⟩:=h;exact akq hrel hop hb
  .simp at h
 .simp at h
theorem LW(hrel:aJ P N0 w0 ρ S hv a w){ops:List Oper}(h:oQ P cfg ops o S=some (S',obs))(ho:dB P ρ S.nv obs):
  if Region.wanted o (yielded ops.toArray a.tmps)=true then o.wp P a w (fun a' w'=>∃hv',aJ P N0 w0 ρ S' hv' a' w') Q else ∃hv',aJ P N0 w0 ρ S' hv' (a.put o.dst undef) w:=by
 unfold oQ at h;split at h
 .simp at h
 .rename_i pc hg;obtain ⟨g1,g2⟩:=akC hrel hg;split at h
  .split at h
   .rename_i hpc;subst hpc;cases hw:tq P cfg o (S.ev P) S.blks with
    |none=>simp[hw] at h
    |some y=>
     obtain ⟨x,bs,ob⟩:=y;simp[hw] at h;obtain ⟨_,rfl,rfl⟩:=h;rw[if_pos (g1 (aR ρ))];exact amw hrel hw ho
   .simp at h
  .split at h
   .split at h
    .rename_i hpc;subst hpc;cases hw:tu P cfg o (S.ev P) S.blks S.nv with
     |none=>simp[hw] at h
     |some y=>
      obtain ⟨x,bs,ob,n⟩:=y;simp[hw] at h;obtain ⟨_,rfl,rfl⟩:=h;rw[if_pos (g1 (aR ρ))];exact amy hrel hw ho
    .simp at h
   cases hx:fA P cfg o pc (S.ev P) S.rb S.nv with
   |none=>simp[hx] at h
   |some out=>
    simp[hx] at h;obtain ⟨_,rfl,rfl⟩:=h;by_cases hp:aS ρ pc
    .rw[if_pos (g1 hp)];exact amu hrel hp hx ho
    .rw[if_neg (by rw[g2 hp];simp)];exact alj hrel hp (anB hx)
theorem rV{ops:List Oper}(h:oQ P cfg ops o S=some (S',obs)):S'.nv=S.nv+(obs.map Ob.vars).sum:=by
 unfold oQ at h;split at h
 .simp at h
 .split at h
  .split at h
   .split at h
    .split at h
     .rename_i hv;simp at h;obtain ⟨rfl,rfl⟩:=h;simp only[eP] at hv;simp[hv]
     .simp at h
    .simp at h
   .simp at h
  .split at h
   .split at h
    .split at h
     .split at h
      .rename_i hv;simp at h;obtain ⟨rfl,rfl⟩:=h;simp only[eP] at hv;simp[hv]
      .simp at h
     .simp at h
    .simp at h
   split at h
   .split at h
    .rename_i hv;simp at h;obtain ⟨rfl,rfl⟩:=h;simp only[eP] at hv;simp[hv]
    .simp at h
   .simp at h
theorem Lh{ops:List Oper}:∀ {l:List Oper} {S S':SS} {hv:Nat->Value} {a:Act} {w:World} {obs:List Ob},aJ P N0 w0 ρ S hv a w->j6 P cfg ops l S=some (S',obs)->dB P ρ S.nv obs->
  (∀a' w',(∃hv',aJ P N0 w0 ρ S' hv' a' w')->Q .normal a' w')->wpList P ops.toArray Q l a w
 | [],S,S',hv,a,w,obs,hrel,h,ho,hq=>by
  simp[j6] at h;obtain ⟨rfl,rfl⟩:=h;exact hq a w ⟨hv,hrel⟩
 |o::l,S,S',hv,a,w,obs,hrel,h,ho,hq=>by
  simp only[j6] at h;split at h
  .simp at h
  .rename_i S1 jo h1;split at h
   .simp at h
   .rename_i S2 ig h2;simp at h;obtain ⟨rfl,rfl⟩:=h;rw[rQ] at ho;have hst:=LW (Q:=Q) hrel h1 ho.1;have ho2:dB P ρ S1.nv ig:=by rw[rV h1];exact ho.2
    refine wpList_step fun K hK=>?_;split
    .rename_i hw;rw[if_pos hw] at hst;exact Oper.wp_mono (fun a' w' ⟨hv',hr'⟩=>hK a' w' (Lh hr' h2 ho2 hq)) hst
    .rename_i hw;rw[if_neg hw] at hst;obtain ⟨hv',hr'⟩:=hst;exact hK _ _ (Lh hr' h2 ho2 hq)
end
end Go.Vc
namespace Go.Vc
section
variable{P:Program}{cfg:dA}{rb cu:Rb}{ev ev':Ev}{pc:aM}{nv mD:Nat}{o:Oper}{out:Out}
def iY(l:List Operand)(ev ev':Ev):Prop:=∀x∈l,∀pc t,ev pc x t=ev' pc x t
theorem zf:∀ {l:List Operand} {ts:List TypeId},iY l ev ev'->lq ev rb pc l ts=lq ev' rb pc l ts
 | [],_,_=>rfl
 |x::l,ts,h=>by
  simp only[lq];rw[h x (by simp),zf (l:=l) fun y hy=>h y (by simp[hy])]
theorem WW{ft:Nat->TypeId}:∀ {l:List (Nat×Operand)} {m:List (Sh×E)},iY (l.map (·.2)) ev ev'->lI ev rb pc ft m l=lI ev' rb pc ft m l
 | [],_,_=>rfl
 |(i,x)::l,m,h=>by
  simp only[lI];rw[h x (by simp)];have ih:∀m,lI ev rb pc ft m l=lI ev' rb pc ft m l:=fun m=>WW (l:=l) fun y hy=>h y (by simp[gK] at hy |-;exact .inr hy);simp only[ih]
theorem WR{t:TypeId}{s:Sh}:∀ {l:List (Nat×Operand)} {k:Nat},iY (l.map (·.2)) ev ev'->lZ ev rb pc t s k l=lZ ev' rb pc t s k l
 | [],_,_=>rfl
 |(i,x)::l,k,h=>by
  simp only[lZ];rw[h x (by simp),WR (l:=l) fun y hy=>h y (by simp[gK] at hy |-;exact .inr hy)]
theorem ait{b:Builtin}{l:List Operand}{ts:Array TypeId}(h:iY l ev ev'):rU P ev rb pc b l ts=rU P ev' rb pc b l ts:=by
 unfold rU;split<;>simp_all[iY]
theorem G7{t:TypeId}{f:Nat}{pre:List (Sh×E)}{args:List Operand}{ts:List TypeId}(h:iY args ev ev'):oP P cfg ev rb pc nv t f pre args ts=oP P cfg ev' rb pc nv t f pre args ts:=by
 unfold oP;rw[zf h]
theorem akX{rs:Option (List Sh)}{f:Nat}{args:List Operand}{ts:List TypeId}(h:iY args ev ev'):vN P rs ev rb pc nv f args ts=vN P rs ev' rb pc nv f args ts:=by
 unfold vN;rw[zf h]
theorem akZ{t:TypeId}{f:Nat}{args:List Operand}{ts:List TypeId}(h:iY args ev ev'):vO P ev rb pc nv t f args ts=vO P ev' rb pc nv t f args ts:=by
 unfold vO;rw[zf h]
theorem alp(h:iY o.op.operands.toList ev ev'):sI P o pc ev=sI P o pc ev':=by
 unfold sI;generalize o.op=op at h;cases op<;>simp only[Op.operands] at h<;>(try rfl)
 case makeFunc fn first captured=>
  cases fn with
  |method name=>
   simp only;split
   .rename_i x h1 h2;have hx:∀pc t,ev pc x t=ev' pc x t:=h x (by simp[h1]);simp only[hx]
   .rfl
  |_=>rfl
 all_goals (simp_all[iY];done)
theorem alz(h:iY o.op.operands.toList ev ev'):jA P cfg o pc ev rb nv=jA P cfg o pc ev' rb nv:=by
 unfold jA pE;generalize o.op=op at h;cases op<;>simp only[Op.operands] at h<;>(try rfl)
 case build t ps=>
  simp only[zS];repeat' split
  all_goals first|rfl|skip
  all_goals simp_all[WW (rb:=rb) (pc:=pc) (l:=ps.toList) (by simpa using h)]
 case buildSlice t n ps=>
  have h':iY (ps.toList.map (·.2)) ev ev':=by simpa using h
  simp only[zK,zF,WR h']
 case slice t x lo hi mx=>
  cases mx with
  |some _=>rfl
  |none=>
   have hx:∀pc t,ev pc x t=ev' pc x t:=h x (by simp);have hb:∀(d:E) (y:Option Operand),(∀z,y=some z->z∈ #[x]++lo.toArray++hi.toArray++(none:Option Operand).toArray)->qL ev pc d y=qL ev' pc d y:=by
    intro d y hy;cases y with
    |none=>rfl
    |some z=>simp only[qL];rw[h z (by simpa using hy z rfl)]
   simp only[zU];rw[hx,hb _ lo (fun z hz=>by subst hz;simp)];have hh:∀d,qL ev pc d hi=qL ev' pc d hi:=fun d=>hb d hi (fun z hz=>by subst hz;simp);simp only[hh]
 case call c=>
  obtain ⟨callee,args,ts⟩:=c;have ha:iY args.toList ev ev':=fun x hx=>h x (by simp[Call.operands];exact .inr (by simpa using hx));cases callee with
  |builtin b=>
   exact ait ha
  |value f=>
   have hf:∀pc t,ev pc f t=ev' pc f t:=h f (by simp[Call.operands]);cases f with
   |func g=>simp only[akX ha,akZ ha]
   |tmp i=>simp only[hf,G7 ha]
   |const v=>simp only[hf,G7 ha]
   |global g=>simp only[hf,G7 ha]
  |invoke r m=>
   have hr:∀pc t,ev pc r t=ev' pc r t:=h r (by simp[Call.operands]);simp only[hr,G7 ha]
 case makeMap t r=>cases r<;>rfl
 all_goals (simp_all[iY];done)
theorem Zf(h:iY o.op.operands.toList ev ev'):fA P cfg o pc ev rb nv=fA P cfg o pc ev' rb nv:=by
 unfold fA;rw[alp h,alz h]
theorem amx{bs:List aG}(h:iY o.op.operands.toList ev ev'):tq P cfg o ev bs=tq P cfg o ev' bs:=by
 unfold tq;generalize o.op=op at h;cases op<;>simp only[Op.operands] at h<;>(try rfl)
 case store t a x=>
  simp only;rw[h a (by simp),h x (by simp)]
 case call c=>
  obtain ⟨callee,args,ts⟩:=c;have ha:iY args.toList ev ev':=fun x hx=>h x (by simp[Call.operands];exact .inr (by simpa using hx));cases callee with
  |builtin b=>
   cases b<;>simp only
   .split
    .rename_i x y d hl hd;rw[ha x (by simp[hl]),ha y (by simp[hl])]
    .rfl
   .split
    .rename_i x y hl;rw[ha x (by simp[hl]),ha y (by simp[hl])]
    .rfl
  |value f=>rfl
  |invoke r m=>rfl
 case convert src dst x=>
  simp only;rw[h x (by simp)]
 case mapUpdate t m k x=>
  simp only;rw[h m (by simp),h k (by simp),h x (by simp)]
 case next it b=>
  cases b with
  |true=>simp only;rw[h it (by simp)]
  |false=>rfl
theorem amA{bs:List aG}(h:iY o.op.operands.toList ev ev'):tu P cfg o ev bs nv=tu P cfg o ev' bs nv:=by
 unfold tu;generalize o.op=op at h;cases op<;>simp only[Op.operands] at h<;>(try rfl)
 case call c=>
  obtain ⟨callee,args,ts⟩:=c;have ha:iY args.toList ev ev':=fun x hx=>h x (by simp[Call.operands];exact .inr (by simpa using hx));cases callee with
  |builtin b=>rfl
  |value f=>
   cases f with
   |func g=>
    cases hd:o.dst with
    |none=>rfl
    |some d=>
     simp only;obtain ⟨al⟩:=args;have e1:Aa P ev bs nv o.type d g al ts.toList=Aa P ev' bs nv o.type d g al ts.toList:=by
      unfold Aa;rw[zf ha]
     have e2:Cq P ev bs nv o.type d g al ts.toList=Cq P ev' bs nv o.type d g al ts.toList:=by
      unfold Cq;cases al with
      |nil=>cases Ae P o.type with
       |none=>rfl
       |some l=>cases l with
        |nil=>rfl
        |cons s r=>cases s<;>rfl
      |cons x xs=>
       have h1:iY xs ev ev':=fun y hy=>ha y (by simp[hy]);have h2:∀pc t,ev pc x t=ev' pc x t:=ha x (by simp);cases Ae P o.type with
       |none=>rfl
       |some l=>cases l with
        |nil=>rfl
        |cons s r=>cases s<;>first|rfl|(simp only;rw[zf h1,h2])
     simp only[e1,e2]
   |_=>rfl
  |invoke r m=>rfl
def lQ(rb cu:Rb):Prop:=∀r b,rb r=some b->b.lb≠ .none->cu r=some b
theorem tO(le:lQ rb cu){r:Nat}{y:Sh×E}(h:rowOf rb pc r=some y):rowOf cu pc r=some y:=by
 unfold rowOf at h |-;split at h
 .rename_i s e p hr;rw[le r _ hr (by simp)];exact h
 .simp at h
theorem aag(le:lQ rb cu){r:Nat}{y:IntKind×Sh×E}(h:mapOf rb pc r=some y):mapOf cu pc r=some y:=by
 unfold mapOf at h |-;split at h
 .rename_i k s e p hr;rw[le r _ hr (by simp)];exact h
 .simp at h
theorem anK(le:lQ rb cu){x:Option SX}{y:IntKind×Sh×E}(h:Cn rb pc x=some y):Cn cu pc x=some y:=by
 unfold Cn at h |-;split at h
 .exact h
 .exact aag le h
 .simp at h
theorem BJ(le:lQ rb cu){x:SX}{y:Sh×E×List Nat}(h:iF rb pc x=some y):iF cu pc x=some y:=by
 unfold iF at h |-;split at h
 .exact h
 .split at h
  .rename_i hr;rw[tO le hr];exact h
  .simp at h
 .split at h
  .rename_i hr;rw[tO le hr];exact h
  .simp at h
 .exact h
 .split at h
  .rename_i hr;rw[aag le hr];exact h
  .simp at h
 .simp at h
theorem xu(le:lQ rb cu){s:Sh}{l:List SX}{y:E×List Nat×List SX}(h:oO rb pc s l=some y):oO cu pc s l=some y:=by
 cases l with
 |nil=>simp[oO] at h
 |cons x l=>
  simp only[oO] at h |-;split at h
  .rename_i hd;rw[BJ le hd];exact h
  .simp at h
theorem Mr(le:lQ rb cu):∀ {s:Sh} {l:List SX} {y:E×List Nat×List SX},dK rb pc s l=some y->dK cu pc s l=some y
 | .unit,_,_,h=>by simpa [dK] using h
 | .pair a b,l,y,h=>by
  simp only[dK] at h |-;split at h
  .rename_i hb;rw[if_pos hb];split at h
   .rename_i x f r h1;rw[Mr le h1];simp only;split at h
    .rename_i h2;rw[Mr le h2];exact h
    .simp at h
   .simp at h
  .simp at h
 | .int k,_,_,h=>by simp only[dK] at h |-;exact xu le h
 | .bool,_,_,h=>by simp only[dK] at h |-;exact xu le h
 | .str,_,_,h=>by simp only[dK] at h |-;exact xu le h
 | .sl s,_,_,h=>by simp only[dK] at h |-;exact xu le h
 | .bP _ s,_,_,h=>by simp only[dK] at h |-;exact xu le h
 | .iX,_,_,h=>by simp only[dK] at h |-;exact xu le h
 | .eU _,_,_,h=>by simp only[dK] at h |-;exact xu le h
 | .mp _ s,_,_,h=>by simp only[dK] at h |-;exact xu le h
theorem Od(le:lQ rb cu){x:Option SX}{y:Sh×E×List Nat}(h:x.bind (iF rb pc)=some y):x.bind (iF cu pc)=some y:=by
 cases x with
 |none=>simp at h
 |some x=>exact BJ le h
theorem Eh(le:lQ rb cu):∀ {l:List Operand} {ts:List TypeId} {y:List (Sh×E)×List Nat},lq ev rb pc l ts=some y->lq ev cu pc l ts=some y
 | [],_,_,h=>h
 |x::l,ts,y,h=>by
  simp only[lq] at h |-;split at h
  .rename_i h1 h2;rw[Od le h1,Eh le h2];exact h
  .simp at h
theorem ZJ(le:lQ rb cu){ft:Nat->TypeId}:∀ {l:List (Nat×Operand)} {m:List (Sh×E)} {y:List (Sh×E)×List Nat},lI ev rb pc ft m l=some y->lI ev cu pc ft m l=some y
 | [],_,_,h=>h
 |(i,x)::l,m,y,h=>by
  simp only[lI] at h |-;split at h
  .rename_i h1 h2;rw[Od le h1,h2];simp only;split at h
   .rename_i hs;rw[if_pos hs];cases hb:lI ev rb pc ft (m.set i _) l with
    |none=>rw[hb] at h;simp at h
    |some z=>
     rw[ZJ le hb];rw[hb] at h;exact h
   .simp at h
  .simp at h
theorem ML(le:lQ rb cu){t:TypeId}{s:Sh}:∀ {l:List (Nat×Operand)} {k:Nat} {y:E×List Nat},lZ ev rb pc t s k l=some y->lZ ev cu pc t s k l=some y
 | [],_,_,h=>h
 |(i,x)::l,k,y,h=>by
  simp only[lZ] at h |-;split at h
  .simp at h
  .rename_i hi;rw[if_neg hi];split at h
   .rename_i h1 h2;rw[Od le h1,ML le h2];exact h
   .simp at h
theorem Nf(le:lQ rb cu){r:Nat}(h:mJ rb pc r=true):mJ cu pc r=true:=by
 unfold mJ at h |-;split at h
 .rename_i hr;rw[le r _ hr (by simp)];exact h
 .rename_i hr;rw[le r _ hr (by simp)];exact h
 .simp at h
theorem apy(le:lQ rb cu){t:TypeId}{x:Option SX}{i:Option (IntKind×E)}{out:Out}(h:vZ P rb pc t x i=some out):vZ P cu pc t x i=some out:=by
 unfold vZ at h |-;split at h
 .rename_i hu
  (try simp only[hu])
  split at h
  .rename_i hf
   (try simp only[hf])
   split at h
   .rename_i hok;simp only[aP] at hok;rw[if_pos (by simp only[aP];exact ⟨hok.1,hok.2.1,hok.2.2.1,Nf le hok.2.2.2⟩)];exact h
   .cases h
  .cases h
 .cases h
theorem aaH(le:lQ rb cu){t:TypeId}{f:Nat}{pre:List (Sh×E)}{args:List Operand}{ts:List TypeId}(h:oP P cfg ev rb pc nv t f pre args ts=some out):oP P cfg ev cu pc nv t f pre args ts=some out:=by
 unfold oP at h |-;split at h
 .rename_i h1 h2;rw[Eh le h1];simpa [h2] using h
 .simp at h
theorem apZ(le:lQ rb cu)(hn:∀d,o.dst=some d->gW rb d=true->gW cu d=true)(h:pE P cfg o pc ev rb nv=some out):pE P cfg o pc ev cu nv=some out:=by
 unfold pE at h |-;split at h
 .split at h
  .split at h
   .exact aaH le h
   .simp at h
  .simp at h
 .simp at h
 .split at h
  .exact aaH le h
  .simp at h
 .split at h
  .rename_i h1 h2 h3;simp only[h1,h2,anK le h3];exact h
  .simp at h
 .split at h
  .rename_i d h1 h2;split at h
   .rename_i hs;split at h
    .rename_i hok;simp only[aP] at hok;simpa [hn _ h2 hok.1,hok.2] using h
    .simp at h
   .simp at h
  .simp at h
 .split at h
  .rename_i h1 h2 h3;split at h
   .rename_i hok;simpa [hn _ h3 hok] using h
   .simp at h
  .simp at h
 .simp at h
theorem ao1(le:lQ rb cu)(hn:∀d,o.dst=some d->gW rb d=true->gW cu d=true)(h:jA P cfg o pc ev rb nv=some out):jA P cfg o pc ev cu nv=some out:=by
 unfold jA at h |-;split at h
 case h_1=>exact h
 case h_2=>exact h
 case h_3=>exact h
 case h_4=>exact h
 case h_5=>exact h
 case h_6=>
  unfold Ct at h |-;split at h
  .simp_all
  .simp_all
  .split at h
   .rename_i h1 h2;simp_all[BJ le h2]
   .simp at h
  .simp_all
  .simp at h
 case h_7=>exact h
 case h_8=>exact h
 case h_9=>
  unfold zS at h |-;split at h
  .rename_i h1 h2
   (try rw[h1];try rw[h2])
   try simp only
   split at h
   .rename_i hs
    (try rw[if_pos hs])
    split at h
    .rename_i l hl
     (try rw[hl])
     try simp only
     split at h
     .rename_i hb
      (try rw[ZJ le hb])
      exact h
     .simp at h
    .simp at h
   .simp at h
  .simp at h
 case h_10=>
  split at h
  .rename_i hr
   (try rw[if_pos hr])
   unfold zK at h |-;split at h
   .rename_i et d h1 hd
    (try rw[h1];try rw[hd])
    try simp only
    split at h
    .simp at h
    .rename_i s hs
     (try rw[hs])
     try simp only
     split at h
     .rename_i hok;have hok':=hok;simp only[aP] at hok'
      (try rw[if_pos (by simp only[aP];exact ⟨⟨⟨⟨⟨hn d hd hok'.1.1.1.1.1,hok'.1.1.1.1.2⟩,hok'.1.1.1.2⟩,hok'.1.1.2⟩,hok'.1.2⟩,hok'.2⟩)])
      split at h
      .rename_i he
       (try rw[ML le he])
       exact h
      .simp at h
     .simp at h
   .simp at h
  .rename_i hr
   (try rw[if_neg hr])
   unfold zF at h |-;split at h
   .simp at h
   .rename_i et h1
    (try rw[h1])
    try simp only
    split at h
    .simp at h
    .rename_i s hs
     (try rw[hs])
     try simp only
     split at h
     .rename_i hok
      (try rw[if_pos hok])
      split at h
      .rename_i he
       (try rw[ML le he])
       exact h
      .simp at h
     .simp at h
 case h_11=>
  unfold Ad at h |-;split at h
  .rename_i s d h1 hd
   (try rw[h1];try rw[hd])
   try simp only
   split at h
   .rename_i e he
    (try rw[he])
    try simp only
    split at h
    .rename_i hok;simp only[aP] at hok
     (try rw[if_pos (by simp only[aP];exact ⟨⟨hn d hd hok.1.1,hok.1.2⟩,hok.2⟩)])
     exact h
    .simp at h
   .simp at h
  .simp at h
 case h_12=>
  unfold CV at h |-;split at h
  .rename_i s e d hx hd
   (try rw[hx];try rw[hd])
   try simp only
   split at h
   .rename_i hok;simp only[aP] at hok
    (try rw[if_pos (by simp only[aP];exact ⟨hn d hd hok.1,hok.2⟩)])
    exact h
   .simp at h
  .rename_i r n d hx hd
   (try rw[hx];try rw[hd])
   try simp only
   split at h
   .rename_i s e hr
    (try rw[tO le hr])
    try simp only
    split at h
    .rename_i hok;simp only[aP] at hok
     (try rw[if_pos (by simp only[aP];exact ⟨hn d hd hok.1,hok.2⟩)])
     exact h
    .simp at h
   .simp at h
  .simp at h
 case h_13=>
  unfold vK at h |-;split at h
  .rename_i hx;(try rw[hx]);exact h
  .rename_i hx
   (try rw[hx])
   try simp only
   split at h
   .rename_i hf
    (try rw[if_pos hf])
    split at h
    .rename_i hr;(try rw[le _ _ hr (by simp)]);exact h
    .rename_i hr
     (try rw[le _ _ hr (by simp)])
     try simp only
     split at h
     .rename_i hp
      (try rw[if_pos hp])
      split at h
      .rename_i ha
       (try rw[if_pos ha])
       split at h
       .rename_i hu;(try rw[Mr le hu]);exact h
       .simp at h
      .rename_i ha
       (try rw[if_neg ha])
       exact h
     .simp at h
    .simp at h
   .simp at h
  .simp at h
 case h_14=>
  unfold CF at h |-;split at h
  .rename_i hx
   (try rw[hx])
   try simp only
   split at h
   .rename_i hl;(try rw[if_pos (Nf le hl)]);exact h
   .simp at h
  .rename_i hx;(try rw[hx]);exact h
  .rename_i hx;(try rw[hx]);exact h
  .simp at h
 case h_15=>
  unfold Cc at h |-;split at h
  .rename_i hx ht
   (try rw[hx];try rw[ht])
   try simp only
   split at h
   .rename_i h1 h2
    (try rw[h1];try rw[h2])
    try simp only
    split at h
    .rename_i hok;simp only[aP] at hok
     (try rw[if_pos (by simp only[aP];exact ⟨hok.1,Nf le hok.2⟩)])
     split at h
     .rename_i hr;(try rw[le _ _ hr (by simp)]);exact h
     .rename_i hr;(try rw[le _ _ hr (by simp)]);exact h
     .simp at h
    .simp at h
   .simp at h
  .rename_i hx ht;(try rw[hx];try rw[ht]);exact h
  .simp at h
 case h_16=>
  unfold vI at h |-;cases hel:nu P _ with
  |none=>simp only[hel] at h |-;exact apy le h
  |some _=>
  simp only[hel] at h |-;clear hel;unfold vC at h |-;split at h
  .rename_i h1 h2 h3;(try rw[h1];try rw[h2];try rw[h3]);exact h
  .rename_i h1 h2 h3
   (try rw[h1];try rw[h2];try rw[h3])
   try simp only
   split at h
   .rename_i hr;(try rw[tO le hr]);exact h
   .simp at h
  .rename_i h1 h2 h3
   (try rw[h1];try rw[h2];try rw[h3])
   try simp only
   split at h
   .rename_i hr;(try rw[tO le hr]);exact h
   .simp at h
  .simp at h
 case h_17=>exact h
 case h_18=>
  unfold zU at h |-;split at h
  .rename_i h1 h2 h3;(try rw[h1];try rw[h2];try rw[h3]);exact h
  .rename_i h1 h2 h3;(try rw[h1];try rw[h2];try rw[h3]);exact h
  .rename_i h1 h2 h3
   (try rw[h1];try rw[h2];try rw[h3])
   try simp only
   split at h
   .rename_i hr hb;(try rw[tO le hr];try rw[hb]);exact h
   .simp at h
  .rename_i h1 h2 h3
   (try rw[h1];try rw[h2];try rw[h3])
   try simp only
   split at h
   .rename_i hr hb;(try rw[tO le hr];try rw[hb]);exact h
   .simp at h
  .simp at h
 case h_19=>
  unfold Aj at h |-;split at h
  .rename_i et kl l kc c d h1 h2 h3 hd
   (try rw[h1];try rw[h2];try rw[h3];try rw[hd])
   try simp only
   split at h
   .simp at h
   .rename_i s hs
    (try rw[hs])
    try simp only
    split at h
    .rename_i z hz
     (try rw[hz])
     try simp only
     split at h
     .rename_i hok;simp only[aP] at hok
      (try rw[if_pos (by simp only[aP];exact ⟨⟨⟨hn d hd hok.1.1.1,hok.1.1.2⟩,hok.1.2⟩,hok.2⟩)])
      exact h
     .simp at h
    .simp at h
  .simp at h
 case h_20=>
  unfold rU at h |-;split at h
  .unfold CG at h |-;split at h
   .rename_i h1 h2;(try rw[h1];try rw[h2]);exact h
   .rename_i h1 h2;(try rw[h1];try rw[h2]);exact h
   .rename_i h1 h2
    (try rw[h1];try rw[h2])
    try simp only
    split at h
    .rename_i hr;(try rw[tO le hr]);exact h
    .simp at h
   .rename_i h1 h2
    (try rw[h1];try rw[h2])
    try simp only
    split at h
    .rename_i hr;(try rw[tO le hr]);exact h
    .simp at h
   .simp at h
  .simp_all
  .simp_all
  .simp at h
 case h_21=>
  split at h
  .simp at h
  .rename_i hown;rw[if_neg hown];split at h
   .rename_i hnil;rw[if_pos hnil];unfold vO at h |-;split at h
    .rename_i h1 h2
     (try rw[Eh le h1];try rw[h2])
     exact h
    .simp at h
   .rename_i hnil;rw[if_neg hnil];unfold vN at h |-;split at h
    .rename_i h1 h2
     (try rw[Eh le h1];try rw[h2])
     exact h
    .simp at h
 case h_22=>exact apZ le hn h
theorem acp(le:lQ rb cu)(hn:∀d,o.dst=some d->gW rb d=true->gW cu d=true)(h:fA P cfg o pc ev rb nv=some out):fA P cfg o pc ev cu nv=some out:=by
 rcases MB h with ⟨hf,rfl⟩|⟨hf,hx⟩|⟨hf,hx,h⟩
 .unfold fA;rw[if_pos hf]
 .unfold fA;rw[if_neg (by simp[hf]),hx]
 .unfold fA;rw[if_neg (by simp[hf]),hx];exact ao1 le hn h
theorem ao0(h:cls cfg o≠ .call):jA P cfg o pc ev rb nv=jA P cfg o pc ev rb mD:=by
 unfold jA pE;unfold cls at h;generalize o.op=op at h;cases op<;>(try rfl)
 case slice t x lo hi mx=>cases mx<;>rfl
 case makeMap t r=>cases r<;>rfl
 case call c=>
  obtain ⟨callee,args,ts⟩:=c;cases callee with
  |builtin b=>rfl
  |value f=>
   cases f with
   |func g=>
    simp only at h |-;by_cases hown:cfg.owns g=true
    .simp[hown]
    .simp[hown] at h
   |_=>first|rfl|(exact absurd rfl h)
  |invoke r m=>exact absurd rfl h
theorem ER(h:cls cfg o≠ .call):fA P cfg o pc ev rb nv=fA P cfg o pc ev rb mD:=by
 unfold fA;rw[ao0 h]
theorem ap0(h:cls cfg o= .P):jA P cfg o pc ev rb nv=jA P cfg o pc ev cu nv:=by
 unfold jA pE;unfold cls at h;generalize o.op=op at h;cases op<;>(try rfl)<;>(try simp at h)
 case buildSlice t n ps=>split at h<;>simp at h
 case convert t u x=>split at h<;>(try split at h)<;>simp at h
 case call c=>
  obtain ⟨callee,args,ts⟩:=c;cases callee with
  |builtin b=>
   have hh:∀(b:Builtin) (l:List Operand) (ts:Array TypeId),b≠ .len->rU P ev rb pc b l ts=rU P ev cu pc b l ts:=by
    intro b l ts hb;unfold rU;split<;>first|rfl|exact absurd rfl hb
   refine hh b _ _ fun e=>?_;subst e;simp at h
  |value f=>
   cases f with
   |func g=>simp only at h;split at h<;>cases h
   |_=>simp at h
  |invoke r m=>simp at h
theorem adL(h:cls cfg o= .P):fA P cfg o pc ev rb nv=fA P cfg o pc ev cu nv:=by
 unfold fA;rw[ap0 h]
theorem ap1(h:cls cfg o= .A)(hn:∀d,o.dst=some d->gW rb d=gW cu d):jA P cfg o pc ev rb nv=jA P cfg o pc ev cu nv:=by
 unfold jA pE;unfold cls at h;generalize o.op=op at h;cases op<;>(try rfl)<;>(try simp at h)
 case buildSlice t n ps=>split at h<;>simp at h
 case convert t u x=>split at h<;>(try split at h)<;>simp at h
 case alloc t=>
  simp only[Ad];split
  .rename_i s d hs hd;rw[hn d hd]
  .rfl
 case makeSlice t l c=>
  simp only[Aj];split
  .rename_i hd;rw[hn _ hd]
  .rfl
 case makeMap t r=>
  cases r with
  |some _=>rfl
  |none=>
   simp only;split
   .rename_i hd;rw[hn _ hd]
   .rfl
 case call c=>
  obtain ⟨callee,args,ts⟩:=c;cases callee with
  |builtin b=>cases b<;>simp at h
  |value f=>
   cases f with
   |func g=>simp only at h;split at h<;>cases h
   |_=>simp at h
  |invoke r m=>simp at h
theorem aqB(h:cls cfg o= .A)(hn:∀d,o.dst=some d->gW rb d=gW cu d):fA P cfg o pc ev rb nv=fA P cfg o pc ev cu nv:=by
 unfold fA;rw[ap1 h hn]
end
section
variable{P:Program}{cfg:dA}{rb cu:Rb}{ev ev':Ev}{pc:aM}{nv mD:Nat}{o:Oper}{out:Out}
def Made(rb:Rb)(r:Nat):Prop:=∃b,rb r=some b/\b.lb≠ .none
def iV(rb:Rb)(f:List Nat):Prop:=∀r∈f,Made rb r
theorem iV.nil:iV rb []:=fun _ h=>by cases h
theorem iV.app{f g:List Nat}(h:iV rb f)(h':iV rb g):iV rb (f++g):=fun r hr=>(iZ.1 hr).elim (h r) (h' r)
theorem Yf{r:Nat}{y:Sh×E}(h:rowOf rb pc r=some y):Made rb r:=by
 unfold rowOf at h;split at h
 .rename_i s e p hr;exact ⟨_,hr,by simp⟩
 .simp at h
theorem alC{r:Nat}{y:IntKind×Sh×E}(h:mapOf rb pc r=some y):Made rb r:=by
 unfold mapOf at h;split at h
 .rename_i hr;exact ⟨_,hr,by simp⟩
 .simp at h
theorem ZG{x:SX}{s:Sh}{e:E}{f:List Nat}(h:iF rb pc x=some (s,e,f)):iV rb f:=by
 unfold iF at h;split at h
 .simp at h;rw[h.2.2];exact iV.nil
 .split at h
  .rename_i hr;simp at h;rw[h.2.2.symm];intro r hr';simp at hr';subst hr';exact Yf hr
  .simp at h
 .split at h
  .rename_i hr;simp at h;rw[h.2.2.symm];intro r hr';simp at hr';subst hr';exact Yf hr
  .simp at h
 .simp at h;rw[h.2.2];exact iV.nil
 .split at h
  .rename_i hr;simp at h;rw[h.2.2.symm];intro r hr';simp at hr';subst hr';exact alC hr
  .simp at h
 .simp at h
theorem Ni{x:Option SX}{s:Sh}{e:E}{f:List Nat}(h:x.bind (iF rb pc)=some (s,e,f)):iV rb f:=by
 cases x with
 |none=>simp at h
 |some x=>exact ZG h
theorem wV{s:Sh}{l r:List SX}{e:E}{f:List Nat}(h:oO rb pc s l=some (e,f,r)):iV rb f:=by
 cases l with
 |nil=>simp[oO] at h
 |cons x l=>
  simp only[oO] at h;split at h
  .rename_i hd;split at h
   .simp at h;rw[h.2.1.symm];exact ZG hd
   .simp at h
  .simp at h
theorem LZ:∀ {s:Sh} {l r:List SX} {e:E} {f:List Nat},dK rb pc s l=some (e,f,r)->iV rb f
 | .unit,_,_,_,_,h=>by simp[dK] at h;rw[h.2.1];exact iV.nil
 | .pair a b,l,_,_,_,h=>by
  simp only[dK] at h;split at h
  .split at h
   .rename_i h1;split at h
    .rename_i h2;simp at h;rw[h.2.1.symm];exact (LZ h1).app (LZ h2)
    .simp at h
   .simp at h
  .simp at h
 | .int k,_,_,_,_,h=>by simp only[dK] at h;exact wV h
 | .bool,_,_,_,_,h=>by simp only[dK] at h;exact wV h
 | .str,_,_,_,_,h=>by simp only[dK] at h;exact wV h
 | .sl s,_,_,_,_,h=>by simp only[dK] at h;exact wV h
 | .bP _ s,_,_,_,_,h=>by simp only[dK] at h;exact wV h
 | .iX,_,_,_,_,h=>by simp only[dK] at h;exact wV h
 | .eU _,_,_,_,_,h=>by simp only[dK] at h;exact wV h
 | .mp _ s,_,_,_,_,h=>by simp only[dK] at h;exact wV h
theorem MU:∀ {l:List Operand} {ts:List TypeId} {m:List (Sh×E)} {f:List Nat},lq ev rb pc l ts=some (m,f)->iV rb f
 | [],_,_,_,h=>by simp[lq] at h;rw[h.2];exact iV.nil
 |x::l,ts,_,_,h=>by
  simp only[lq] at h;split at h
  .rename_i h1 h2;simp at h;rw[h.2.symm];exact (Ni h1).app (MU h2)
  .simp at h
theorem YL{ft:Nat->TypeId}:∀ {l:List (Nat×Operand)} {m m':List (Sh×E)} {f:List Nat},lI ev rb pc ft m l=some (m',f)->iV rb f
 | [],_,_,_,h=>by simp[lI] at h;rw[h.2];exact iV.nil
 |(i,x)::l,m,_,_,h=>by
  simp only[lI] at h;split at h
  .rename_i h1 h2;split at h
   .cases hb:lI ev rb pc ft (m.set i _) l with
    |none=>rw[hb] at h;simp at h
    |some z=>
     obtain ⟨m2,g⟩:=z;rw[hb] at h;simp at h;rw[h.2.symm];exact (Ni h1).app (YL hb)
   .simp at h
  .simp at h
theorem YD{t:TypeId}{s:Sh}:∀ {l:List (Nat×Operand)} {k:Nat} {e:E} {f:List Nat},lZ ev rb pc t s k l=some (e,f)->iV rb f
 | [],_,_,_,h=>by simp[lZ] at h;rw[h.2];exact iV.nil
 |(i,x)::l,k,_,_,h=>by
  simp only[lZ] at h;split at h
  .simp at h
  .split at h
   .rename_i h1 h2;split at h
    .simp at h;rw[h.2.symm];exact (Ni h1).app (YD h2)
    .simp at h
   .simp at h
def dU(rb:Rb)(pc:aM)(dst:Option Tmp)(c:Cls)(out:Out):Prop:=
 (c≠ .call->out.nv=0)/\
 ((∃f,out.cmds=f.map dM.aV/\iV rb f/\(c= .P->f=[]))\/∃d lb,dst=some d/\out.cmds=[dM.put d ⟨lb,false,pc⟩]/\gW rb d=true/\(c= .A\/c= .L))
theorem dU.plain{dst:Option Tmp}{c:Cls}{x:SX}{obs:List Ob}:dU rb pc dst c {x,obs}:=⟨fun _=>rfl,.inl ⟨[],rfl,iV.nil,fun _=>rfl⟩⟩
theorem dU.aV{dst:Option Tmp}{c:Cls}{x:SX}{obs:List Ob}{f:List Nat}(h:iV rb f)(hc:c≠ .P):dU rb pc dst c {x,obs,cmds:=f.map .aV}:=
 ⟨fun _=>rfl,.inl ⟨f,rfl,h,fun e=>absurd e hc⟩⟩
theorem dU.put{c:Cls}{x:SX}{obs:List Ob}{d:Nat}{lb:LB}{dst:Option Tmp}(hd:dst=some d)(h:gW rb d=true)(hc:c= .A\/c= .L):
  dU rb pc dst c {x,obs,cmds:=[.put d ⟨lb,false,pc⟩]}:=⟨fun _=>rfl,.inr ⟨d,lb,hd,rfl,h,hc⟩⟩
theorem aoh{raw:Bool}{op:BinOp}{xt:TypeId}{s s':Sh}{x y:E}{dst:Option Tmp}{c:Cls}(h:vX P raw pc op xt s x s' y=some out):dU rb pc dst c out:=by
 unfold vX at h;repeat' split at h
 all_goals first|(simp at h;done)|(simp at h;subst h;exact dU.plain)|(injection h with h;subst h;exact dU.plain)
theorem ZI{t:TypeId}{f:Nat}{pre:List (Sh×E)}{args:List Operand}{ts:List TypeId}{d:Option Tmp}(h:oP P cfg ev rb pc nv t f pre args ts=some out):dU rb pc d .call out:=by
 unfold oP at h;split at h
 .rename_i l aV aF h1 h2;split at h
  .simp only[bQ] at h;subst h;refine ⟨fun e=>absurd rfl e,.inl ?_⟩;by_cases hp:aF.all Sh.fQ=true
   .simp only[hp,if_true];exact ⟨[],rfl,iV.nil,fun _=>rfl⟩
   .simp only[hp];exact ⟨aV,rfl,MU h1,fun e=>by cases e⟩
  .simp at h
 .simp at h
theorem aoZ(h:pE P cfg o pc ev rb nv=some out):dU rb pc o.dst (cls cfg o) out:=by
 unfold pE at h;split at h
 .rename_i hop;have hc:cls cfg o= .call:=by simp[cls,hop]
  rw[hc];repeat' split at h
  all_goals first|exact ZI h|simp at h
 .simp at h
 .rename_i x args ts hx hop;have hc:cls cfg o= .call:=by
   cases x with
   |func g=>exact (hx g rfl).elim
   |_=>simp[cls,hop]
  rw[hc];repeat' split at h
  all_goals first|exact ZI h|simp at h
 .repeat' split at h
  all_goals first|(simp at h;done)|(injection h with h;subst h;exact dU.plain)
 .rename_i hop;have hc:cls cfg o= .A:=by simp[cls,hop]
  rw[hc];split at h
  .rename_i d _ hd;split at h
   .split at h
    .rename_i hok;simp only[aP] at hok;injection h with h;subst h;exact dU.put hd hok.1 (.inl rfl)
    .simp at h
   .simp at h
  .simp at h
 .rename_i hop;have hc:cls cfg o= .L:=by simp[cls,hop]
  rw[hc];split at h
  .rename_i d _ _ hd;split at h
   .rename_i hok;injection h with h;subst h;exact dU.put hd hok (.inr rfl)
   .simp at h
  .simp at h
 .simp at h
theorem anC(h:jA P cfg o pc ev rb nv=some out):dU rb pc o.dst (cls cfg o) out:=by
 unfold jA at h;split at h
 case h_1=>split at h<;>simp at h;subst h;exact dU.plain
 case h_2=>split at h<;>simp at h;subst h;exact dU.plain
 case h_3=>
  unfold FD at h;repeat' split at h
  all_goals first|(simp at h;done)|(simp at h;subst h;exact dU.plain)
 case h_4=>
  split at h
  .exact aoh h
  .simp at h
 case h_5=>
  unfold Gd at h;split at h<;>first|(simp at h;done)|(simp at h;subst h;exact dU.plain)
 case h_6=>
  unfold Ct at h;repeat' split at h
  all_goals first|(simp at h;done)|(simp at h;subst h;exact dU.plain)
 case h_7=>
  repeat' split at h
  all_goals first|(simp at h;done)|(simp at h;subst h;exact dU.plain)
 case h_8=>
  unfold E5 at h;repeat' split at h
  all_goals first|(simp at h;done)|(simp at h;subst h;exact dU.plain)
 case h_9=>
  rename_i hop;have hc:cls cfg o≠ .P:=by simp[cls,hop]
  unfold zS at h;split at h
  .split at h
   .split at h
    .split at h
     .rename_i hb;simp at h;subst h;exact dU.aV (YL hb) hc
     .simp at h
    .simp at h
   .simp at h
  .simp at h
 case h_10=>
  rename_i hop;split at h
  .rename_i hl;have hc:cls cfg o= .L:=by simp[cls,hop,hl]
   unfold zK at h;split at h
   .rename_i et d _ hd;split at h
    .simp at h
    .split at h
     .rename_i hok;split at h
      .simp at h;subst h;simp only[aP] at hok;exact dU.put hd hok.1.1.1.1.1 (.inr hc)
      .simp at h
     .simp at h
   .simp at h
  .rename_i hl;have hc:cls cfg o≠ .P:=by simp[cls,hop,hl]
   unfold zF at h;split at h
   .simp at h
   .split at h
    .simp at h
    .split at h
     .split at h
      .rename_i hb;simp at h;subst h;exact dU.aV (YD hb) hc
      .simp at h
     .simp at h
 case h_11=>
  rename_i hop;have hc:cls cfg o= .A:=by simp[cls,hop]
  unfold Ad at h;split at h
  .rename_i s d _ hd;split at h
   .split at h
    .rename_i hok;simp at h;subst h;simp only[aP] at hok;exact dU.put hd hok.1.1 (.inl hc)
    .simp at h
   .simp at h
  .simp at h
 case h_12=>
  rename_i hop;have hc:cls cfg o= .L:=by simp[cls,hop]
  unfold CV at h;split at h
  .rename_i s e d _ hd;split at h
   .rename_i hok;simp at h;subst h;simp only[aP] at hok;exact dU.put hd hok.1 (.inr hc)
   .simp at h
  .rename_i r n d _ hd;split at h
   .split at h
    .rename_i hok;simp at h;subst h;simp only[aP] at hok;exact dU.put hd hok.1 (.inr hc)
    .simp at h
   .simp at h
  .simp at h
 case h_13=>
  rename_i hop;have hc:cls cfg o≠ .P:=by simp[cls,hop]
  unfold vK at h;split at h
  .split at h<;>simp at h;subst h;exact dU.plain
  .split at h
   .split at h
    .repeat' split at h
     all_goals first|(simp at h;done)|(simp at h;subst h;exact dU.plain)
    .split at h
     .split at h
      .split at h
       .rename_i hu;simp at h;subst h;exact dU.aV (LZ hu) hc
       .simp at h
      .split at h<;>simp at h;subst h;exact dU.plain
     .simp at h
    .simp at h
   .simp at h
  .simp at h
 case h_14=>
  unfold CF at h;repeat' split at h
  all_goals first|(simp at h;done)|(simp at h;subst h;exact dU.plain)
 case h_15=>
  unfold Cc at h;repeat' split at h
  all_goals first|(simp at h;done)|(simp at h;subst h;exact dU.plain)
 case h_16=>
  unfold vI vC vZ at h;repeat' split at h
  all_goals first|(simp at h;done)|(simp at h;subst h;exact dU.plain)
 case h_17=>
  unfold ES at h;repeat' split at h
  all_goals first|(simp at h;done)|(simp at h;subst h;exact dU.plain)
 case h_18=>
  unfold zU at h;repeat' split at h
  all_goals first|(simp at h;done)|(simp at h;subst h;exact dU.plain)
 case h_19=>
  rename_i hop;have hc:cls cfg o= .A:=by simp[cls,hop]
  unfold Aj at h;split at h
  .rename_i et kl l kc c d _ _ _ hd;split at h
   .simp at h
   .split at h
    .split at h
     .rename_i hok;simp at h;subst h;simp only[aP] at hok;exact dU.put hd hok.1.1.1 (.inl hc)
     .simp at h
    .simp at h
  .simp at h
 case h_20=>
  unfold rU CG yR at h;repeat' split at h
  all_goals first|(simp at h;done)|(simp at h;subst h;exact dU.plain)
 case h_21=>
  rename_i hop;split at h
  .simp at h
  rename_i hown;have hc:cls cfg o= .call:=by simp[cls,hop,hown]
  split at h
  .unfold vO at h;split at h
   .simp only[bQ] at h;subst h;exact ⟨fun e=>absurd hc e,.inl ⟨[],rfl,iV.nil,fun _=>rfl⟩⟩
   .simp at h
  unfold vN at h;split at h
  .rename_i l aV aF h1 h2;split at h
   .simp only[bQ] at h;subst h;refine ⟨fun e=>absurd hc e,.inl ?_⟩;by_cases hp:aF.all Sh.fQ=true
    .simp only[hp,if_true];exact ⟨[],rfl,iV.nil,fun _=>rfl⟩
    .simp only[hp];exact ⟨aV,rfl,MU h1,fun e=>by rw[hc] at e;cases e⟩
   .simp at h
  .simp at h
 case h_22=>exact aoZ h
theorem zM(h:fA P cfg o pc ev rb nv=some out):dU rb pc o.dst (cls cfg o) out:=by
 rcases MB h with ⟨_,rfl⟩|⟨_,h⟩|⟨_,_,h⟩
 .exact dU.plain
 .obtain ⟨h1,h2,_⟩:=Z7 h;exact ⟨fun _=>h2,.inl ⟨[],h1,iV.nil,fun _=>rfl⟩⟩
 .exact anC h
theorem Im(bs:List aG):∀f:List Nat,aY (aW (f.map .aV) bs)=aY bs:=by
 intro f;induction f generalizing bs with
 |nil=>rfl
 |cons r f ih=>
  change aY (aW (f.map .aV) (bs.modify r fun b=> {b with fI:=true}))=_
  rw[ih];funext q
  unfold aY;rw[List.getElem?_modify];cases bs[q]? with
  |none=>simp
  |some b=>by_cases hr:r=q<;>simp[hr]
theorem aks(bs:List aG)(r q:Nat):(bs.modify r fun b=> {b with fI:=true}).modify q (fun b=> {b with fI:=true})=(bs.modify q fun b=> {b with fI:=true}).modify r (fun b=> {b with fI:=true}):=by
 apply CY;intro i;simp only[List.getElem?_modify];cases bs[i]? with
 |none=>simp
 |some b=>by_cases h1:r=i<;>by_cases h2:q=i<;>simp[h1,h2]
theorem abl(q:Nat):∀(f:List Nat) (bs:List aG),aW (f.map .aV) (bs.modify q fun b=> {b with fI:=true})=(aW (f.map .aV) bs).modify q fun b=> {b with fI:=true}
 | [],_=>rfl
 |r::f,bs=>by
  change aW (f.map .aV) ((bs.modify q _).modify r _)=(aW (f.map .aV) (bs.modify r _)).modify q _
  rw[aks,abl q f]
theorem abm:∀(f g:List Nat) (bs:List aG),aW (f.map .aV) (aW (g.map .aV) bs)=aW (g.map .aV) (aW (f.map .aV) bs)
 | [],_,_=>rfl
 |r::f,g,bs=>by
  change aW (f.map .aV) ((aW (g.map .aV) bs).modify r _)=aW (g.map .aV) (aW (f.map .aV) (bs.modify r _))
  rw[<-abl r g,abm f g]
theorem NZ{d:Nat}(b:aG):∀(f:List Nat) (bs:List aG),d∉f->aW (f.map .aV) (bs.set d b)=(aW (f.map .aV) bs).set d b
 | [],_,_=>rfl
 |r::f,bs,h=>by
  simp only[iH,not_or] at h;change aW (f.map .aV) ((bs.set d b).modify r _)=(aW (f.map .aV) (bs.modify r _)).set d b
  rw[<-NZ b f _ h.2];congr 1
  apply CY;intro i;simp only[List.getElem?_modify,CZ,List.length_modify];by_cases h1:d=i
  .subst h1;by_cases h2:d<bs.length<;>simp[h2,Ne.symm h.1]
  .simp[h1]
theorem Nb{r:Nat}(h:Made rb r)(hn:gW rb r=true):False:=by
 obtain ⟨b,h1,h2⟩:=h;unfold gW at hn;split at hn
 .rename_i hr;rw[h1] at hr;injection hr with hr;subst hr;exact h2 rfl
 .simp at hn
theorem amW{bs:List aG}{pc pc':aM}{dst dst':Option Tmp}{c c':Cls}{out out':Out}(hd:∀d,dst=some d->dst'≠some d)
  (h:dU (aY bs) pc dst c out) (h':dU (aY bs) pc' dst' c' out'):aW out.cmds (aW out'.cmds bs)=aW out'.cmds (aW out.cmds bs):=by
 obtain ⟨-,h⟩:=h;obtain ⟨-,h'⟩:=h';rcases h with ⟨f,e,hf,-⟩|⟨d,lb,e0,e,hn,-⟩<;>rcases h' with ⟨f',e',hf',-⟩|⟨d',lb',Ku,e',hn',-⟩<;>rw[e,e']
 .exact abm _ _ _
 .exact NZ _ f bs (fun hm=>Nb (hf _ hm) hn')
 .exact (NZ _ f' bs (fun hm=>Nb (hf' _ hm) hn)).symm
 .change (bs.set d' _).set d _=(bs.set d _).set d' _
  exact List.set_comm _ _ (fun e1=>hd d e0 (by rw[Ku,e1]))
theorem aqk{bs:List aG}{dst:Option Tmp}{c:Cls}{out:Out}(h:dU (aY bs) pc dst c out):lQ (aY bs) (aY (aW out.cmds bs)):=by
 obtain ⟨-,h⟩:=h;rcases h with ⟨f,e,hf,-⟩|⟨d,lb,e0,e,hn,-⟩<;>rw[e]
 .rw[Im];exact fun r b hb _=>hb
 .intro r b hb hl;change aY (bs.set d _) r=_
  have hne:d≠r:=fun e1=>by subst e1;exact Nb ⟨b,hb,hl⟩ hn
  unfold aY at hb |-;rw[dN hne];exact hb
theorem abQ{bs:List aG}{dst:Option Tmp}{c:Cls}{out:Out}{q:Nat}(h:dU (aY bs) pc dst c out)(hq:dst≠some q):gW (aY (aW out.cmds bs)) q=gW (aY bs) q:=by
 obtain ⟨-,h⟩:=h;rcases h with ⟨f,e,hf,-⟩|⟨d,lb,e0,e,hn,-⟩<;>rw[e]
 .rw[Im]
 .change gW (aY (bs.set d _)) q=_
  have hne:d≠q:=fun e1=>by subst e1;exact hq e0
  unfold gW aY;rw[dN hne]
def core(P:Program)(cfg:dA)(o:Oper)(pc:aM)(ev:Ev)(bs:List aG)(nv:Nat):Option (SX×List aG×Nat×List Ob):=
 if cls cfg o= .W then
  if pc=[] then match tq P cfg o ev bs with
   |some (x,bs,obs)=>if eP obs=0 then some (x,bs,0,obs) else none
   |none=>none
  else none
 else if cls cfg o= .G then
  if pc=[] then match tu P cfg o ev bs nv with
   |some (x,bs,obs,n)=>if eP obs=n then some (x,bs,n,obs) else none
   |none=>none
  else none
 else match fA P cfg o pc ev (aY bs) nv with
  |some out=>if eP out.obs=out.nv then some (out.x,aW out.cmds bs,out.nv,out.obs) else none
  |none=>none
theorem DI{ops:List Oper}{S S':SS}{obs:List Ob}:oQ P cfg ops o S=some (S',obs)↔
  ∃pc x bs n,qG S ops o=some pc/\core P cfg o pc (S.ev P) S.blks S.nv=some (x,bs,n,obs)/\S'= {tmps:=cO S.tmps o.dst ⟨pc,x⟩,blks:=bs,nv:=S.nv+n}:=by
 unfold oQ core;cases hg:qG S ops o with
 |none=>simp
 |some pc=>
  simp only[bQ];by_cases hw:cls cfg o= .W
  .simp only[hw,if_true];by_cases hp:pc=[]
   .subst hp;simp only[if_true];cases ho:tq P cfg o (S.ev P) S.blks with
    |none=>simp
    |some y=>
     obtain ⟨x,bs,ob⟩:=y;simp only;by_cases hv:eP ob=0
     .simp only[hv,if_true,bQ,fq];constructor
      .rintro ⟨rfl,rfl⟩;exact ⟨[],x,bs,0,rfl,by simp,rfl⟩
      .rintro ⟨_,_,_,_,rfl,h,rfl⟩;simp at h;obtain ⟨rfl,rfl,rfl,rfl⟩:=h;exact ⟨rfl,rfl⟩
     .simp[hv]
   .simp only[hp,if_false];simp;intro _ _ _ h;exact absurd h hp
  by_cases hw':cls cfg o= .G
  .simp only[hw',if_true,if_neg (show ¬(Cls.G=Cls.W) by simp)];by_cases hp:pc=[]
   .subst hp;simp only[if_true];cases ho:tu P cfg o (S.ev P) S.blks S.nv with
    |none=>simp
    |some y=>
     obtain ⟨x,bs,ob,n⟩:=y;simp only;by_cases hv:eP ob=n
     .simp only[hv,if_true,bQ,fq];constructor
      .rintro ⟨rfl,rfl⟩;exact ⟨[],x,bs,n,rfl,by simp,rfl⟩
      .rintro ⟨_,_,_,_,rfl,h,rfl⟩;simp at h;obtain ⟨rfl,rfl,rfl,rfl⟩:=h;exact ⟨rfl,rfl⟩
     .simp[hv]
   .simp only[hp,if_false];simp;intro _ _ _ h;exact absurd h hp
  .simp only[hw,hw',if_false];change (match fA P cfg o pc (S.ev P) (aY S.blks) S.nv with|some out=>_|none=>none)=_↔_
   cases ho:fA P cfg o pc (S.ev P) (aY S.blks) S.nv with
   |none=>
    simp;intro _ _ _ h;simp[ho] at h
   |some out=>
    simp only;by_cases hv:eP out.obs=out.nv
    .simp only[hv,if_true,bQ,fq];constructor
     .rintro ⟨rfl,rfl⟩;exact ⟨pc,out.x,_,out.nv,rfl,by simp[ho,hv],rfl⟩
     .rintro ⟨_,_,_,_,rfl,h,rfl⟩;simp[ho,hv] at h;obtain ⟨rfl,rfl,rfl,rfl⟩:=h;exact ⟨rfl,rfl⟩
    .simp[hv];intro _ _ _ h;simp[ho,hv] at h
theorem YG{bs:List aG}(h:iY o.op.operands.toList ev ev'):core P cfg o pc ev bs nv=core P cfg o pc ev' bs nv:=by
 unfold core;rw[amx h,amA h,Zf h]
theorem xA{bs bs':List aG}{x:SX}{n:Nat}{obs:List Ob}(hw:cls cfg o≠ .W)(hw':cls cfg o≠ .G):core P cfg o pc ev bs nv=some (x,bs',n,obs)↔
  ∃out,fA P cfg o pc ev (aY bs) nv=some out/\eP out.obs=out.nv/\x=out.x/\bs'=aW out.cmds bs/\n=out.nv/\obs=out.obs:=by
 unfold core;rw[if_neg hw,if_neg hw'];cases ho:fA P cfg o pc ev (aY bs) nv with
 |none=>simp
 |some out=>
  simp only;by_cases hv:eP out.obs=out.nv
  .simp only[hv,if_true,bQ,fq];constructor
   .rintro ⟨rfl,rfl,rfl,rfl⟩;exact ⟨out,rfl,hv,rfl,rfl,rfl,rfl⟩
   .rintro ⟨_,rfl,_,rfl,rfl,rfl,rfl⟩;exact ⟨rfl,rfl,rfl,rfl⟩
  .rw[if_neg hv];constructor
   .intro h;cases h
   .rintro ⟨_,h,h2,_⟩;injection h with h;subst h;exact absurd h2 hv
theorem amT{a x:Oper}{pc pc':aM}{bs Ky Bb:List aG}{x1 x2:SX}{n1 n2:Nat}{jo ig:List Ob}(hd:∀d,a.dst=some d->x.dst≠some d)
  (hc:(match cls cfg a,cls cfg x with
   | .P,_|_,.P=>true
   | .R,.R| .R,.call| .call,.R| .R,.A| .call,.A| .R,.L| .call,.L| .A,.A| .L,.A=>true
   |_,_=>false)=true)
  (h1:core P cfg a pc ev bs nv=some (x1,Ky,n1,jo)) (h2:core P cfg x pc' ev' Ky (nv+n1)=some (x2,Bb,n2,ig)):
  ∃F8,core P cfg x pc' ev' bs nv=some (x2,F8,n2,ig)/\core P cfg a pc ev F8 (nv+n2)=some (x1,Bb,n1,jo)/\(n1=0\/n2=0):=by
 by_cases hPa:cls cfg a= .P
 .have hw:cls cfg a≠ .W:=by rw[hPa];simp
  have hw':cls cfg a≠ .G:=by rw[hPa];simp
  obtain ⟨out,ho,hv,rfl,rfl,rfl,rfl⟩:=(xA hw hw').1 h1;obtain ⟨hn,hc'⟩:=zM ho;have hn0:=hn (by rw[hPa];simp);have he:out.cmds=[]:=by
   rcases hc' with ⟨f,e,_,hf⟩|⟨d,lb,_,_,_,hh⟩
   .rw[e,hf hPa];rfl
   .rw[hPa] at hh;simp at hh
  rw[hn0,he] at h2;refine ⟨Bb,h2,(xA hw hw').2 ⟨out,?_,hv,rfl,?_,rfl,rfl⟩,.inl hn0⟩
  .rw[adL hPa (cu:=aY bs),ER (by rw[hPa];simp) (mD:=nv)];exact ho
  .rw[he];rfl
 by_cases hPx:cls cfg x= .P
 .have hw:cls cfg x≠ .W:=by rw[hPx];simp
  have hw':cls cfg x≠ .G:=by rw[hPx];simp
  obtain ⟨out,ho,hv,rfl,rfl,rfl,rfl⟩:=(xA hw hw').1 h2;obtain ⟨hn,hc'⟩:=zM ho;have hn0:=hn (by rw[hPx];simp);have he:out.cmds=[]:=by
   rcases hc' with ⟨f,e,_,hf⟩|⟨d,lb,_,_,_,hh⟩
   .rw[e,hf hPx];rfl
   .rw[hPx] at hh;simp at hh
  refine ⟨bs,(xA hw hw').2 ⟨out,?_,hv,rfl,by rw[he];rfl,rfl,rfl⟩,?_,.inr hn0⟩
  .rw[adL hPx (cu:=aY Ky),ER (by rw[hPx];simp) (mD:=nv+n1)];exact ho
  .rw[hn0,he];exact h1
 have hwa:cls cfg a≠ .W:=fun e=>by rw[e] at hc;revert hc;cases hx:cls cfg x<;>simp;exact hPx hx
 have hwx:cls cfg x≠ .W:=fun e=>by rw[e] at hc;revert hc;cases hx:cls cfg a<;>simp;exact hPa hx
 have hga:cls cfg a≠ .G:=fun e=>by rw[e] at hc;revert hc;cases hx:cls cfg x<;>simp;exact hPx hx
 have hgx:cls cfg x≠ .G:=fun e=>by rw[e] at hc;revert hc;cases hx:cls cfg a<;>simp;exact hPa hx
 obtain ⟨out,ho,hv,rfl,rfl,rfl,rfl⟩:=(xA hwa hga).1 h1;obtain ⟨out',ho',hv',rfl,rfl,rfl,rfl⟩:=(xA hwx hgx).1 h2;have hca:=zM ho;have rG:out.nv=0\/out'.nv=0:=by
  by_cases h:cls cfg a= .call
  .refine .inr ((zM ho').1 fun e=>?_);rw[h,e] at hc;simp at hc
  .exact .inl (hca.1 h)
 have hnx:cls cfg x≠ .call\/out.nv=0:=by
  by_cases h:cls cfg x= .call
  .refine .inr (hca.1 fun e=>?_);rw[h,e] at hc;simp at hc
  .exact .inl h
 have hna:cls cfg a≠ .call\/out'.nv=0:=by
  by_cases h:cls cfg a= .call
  .refine .inr ((zM ho').1 fun e=>?_);rw[h,e] at hc;simp at hc
  .exact .inl h
 have hox:fA P cfg x pc' ev' (aY bs) nv=some out':=by
  have e1:fA P cfg x pc' ev' (aY (aW out.cmds bs)) nv=some out':=by
   rcases hnx with h|h
   .rw[ER h (mD:=nv+out.nv)];exact ho'
   .rw[h] at ho';exact ho'
  rcases hca.2 with ⟨f,e,hf,_⟩|⟨d,lb,e0,e,hn,hh⟩
  .rw[e,Im] at e1;exact e1
  .have hxA:cls cfg x= .A:=by
    rcases hh with hh|hh<;>rw[hh] at hc<;>revert hc<;>cases hx:cls cfg x<;>simp
    .exact hPx hx
    .exact hPx hx
   rw[aqB hxA (cu:=aY (aW out.cmds bs)) fun d' hd'=>(abQ hca (fun e2=>hd d' e2 hd')).symm];exact e1
 have hcx:=zM hox;refine ⟨aW out'.cmds bs,(xA hwx hgx).2 ⟨out',hox,hv',rfl,rfl,rfl,rfl⟩,(xA hwa hga).2 ⟨out,?_,hv,rfl,(amW hd hca hcx).symm,rfl,rfl⟩,rG⟩;have e1:=acp (aqk hcx) (fun d hd' hn=>by rw[abQ hcx (hd d hd')];exact hn) ho;rcases hna with h|h
 .rw[ER h (mD:=nv)];exact e1
 .rw[h];exact e1
theorem Hz{l:List TS}{d:Option Tmp}{t:TS}{i:Nat}(h:d≠some i):(cO l d t)[i]?=l[i]?:=by
 cases d with
 |none=>rfl
 |some d=>exact dN (fun e=>h (by rw[e]))
theorem Gu{S S':SS}{ops:List Oper}(h:∀t∈looks ops o,S'.tmps[t]?=S.tmps[t]?):qG S' ops o=qG S ops o:=by
 unfold qG;unfold looks at h;cases hg:o.guard with
 |none=>rfl
 |some g=>
  obtain ⟨j,want⟩:=g;simp only;cases hd:(ops[j]?).bind (·.dst) with
  |none=>rfl
  |some d=>simp only[Option.bind_some];rw[h d (by simp[hg,hd])]
theorem Iy{S S':SS}{ops:List Oper}(h:∀t∈looks ops o,S'.tmps[t]?=S.tmps[t]?):iY o.op.operands.toList (S'.ev P) (S.ev P):=by
 intro x hx pc t;unfold SS.ev;cases x with
 |tmp i=>
  simp only;rw[h i (List.mem_append_left _ (List.mem_filterMap.2 ⟨.tmp i,by simpa using hx,rfl⟩))]
 |_=>rfl
theorem Za{l:List TS}{d d':Option Tmp}{t t':TS}(h:∀x,d=some x->d'≠some x):cO (cO l d t) d' t'=cO (cO l d' t') d t:=by
 cases d with
 |none=>rfl
 |some d=>
  cases d' with
  |none=>rfl
  |some d'=>exact List.set_comm _ _ (fun e=>h d rfl (by rw[e]))
theorem alV{ops:List Oper}{a x:Oper}{S S1 S2:SS}{jo ig:List Ob}(hi:indep cfg ops a x=true)(h1:oQ P cfg ops a S=some (S1,jo))(h2:oQ P cfg ops x S1=some (S2,ig)):
  ∃tH,oQ P cfg ops x S=some (tH,ig)/\oQ P cfg ops a tH=some (S2,jo)/\(eP jo=0\/eP ig=0):=by
 have hv1:=rV h1;have hv2:=rV h2;obtain ⟨pc,x1,Ky,n1,hg,hcore,rfl⟩:=DI.1 h1;obtain ⟨pc',x2,Bb,n2,hg',acJ,rfl⟩:=DI.1 h2;simp only[indep,aP] at hi;obtain ⟨hi1,hi2,hi3⟩:=hi;have hlx:∀t∈looks ops x,a.dst≠some t:=by
  intro t ht e;rw[e] at hi1;simp at hi1;exact hi1.1 ht
 have hdd:∀d,a.dst=some d->x.dst≠some d:=by
  intro d e;rw[e] at hi1;simp at hi1;exact hi1.2
 have hla:∀t∈looks ops a,x.dst≠some t:=by
  intro t ht e;rw[e] at hi2;simp at hi2;exact hi2 ht
 have ax:∀t∈looks ops x,(cO S.tmps a.dst ⟨pc,x1⟩)[t]?=S.tmps[t]?:=fun t ht=>Hz (hlx t ht);have aa:∀t∈looks ops a,(cO S.tmps x.dst ⟨pc',x2⟩)[t]?=S.tmps[t]?:=fun t ht=>Hz (hla t ht);rw[Gu (S:=S) ax] at hg';rw[YG (Iy (S:=S) ax)] at acJ;obtain ⟨F8,e1,e2,e3⟩:=amT hdd hi3 hcore acJ;refine ⟨{tmps:=cO S.tmps x.dst ⟨pc',x2⟩,blks:=F8,nv:=S.nv+n2},DI.2 ⟨pc',x2,F8,n2,hg',e1,rfl⟩,
  DI.2 ⟨pc,x1,Bb,n1,?_,?_,?_⟩,?_⟩
 .rw[Gu (S:=S) aa];exact hg
 .rw[YG (Iy (S:=S) aa)];exact e2
 .rw[SS.mk.injEq];exact ⟨Za hdd,rfl,by simp only;omega⟩
 .simp only[eP] at*;rcases e3 with h|h
  .left;omega
  .right;omega
theorem Mt{ops:List Oper}:∀ {l:List Oper} {S S':SS} {obs:List Ob},j6 P cfg ops l S=some (S',obs)->S'.nv=S.nv+eP obs
 | [],S,S',obs,h=>by simp[j6] at h;obtain ⟨rfl,rfl⟩:=h;simp[eP]
 |o::l,S,S',obs,h=>by
  simp only[j6] at h;split at h
  .simp at h
  .rename_i S1 jo h1;split at h
   .simp at h
   .rename_i S2 ig h2;simp at h;obtain ⟨rfl,rfl⟩:=h;have e1:=rV h1;have e2:=Mt h2;simp only[eP,eB,List.sum_append] at*;omega
theorem GV{ρ:List C}:∀(l:List Ob) (m m':Nat),(l.map Ob.vars).sum=0->dB P ρ m l->dB P ρ m' l:=by
 intro l;induction l with
 |nil=>exact fun _ _ _ h=>h
 |cons o l ih=>
  intro m m' hs hh;simp only[eZ,List.sum_cons] at hs;have h0:o.vars=0:=by omega
  refine ⟨?_,?_⟩
  .have:=hh.1;cases o with
   |aj p e=>exact this
   |call p f args aF=>
    simp only[Ob.vars] at h0;have hr:aF=[]:=List.length_eq_zero_iff.1 h0;subst hr;exact fun hp=>⟨(this hp).1,.inl rfl⟩
  .rw[h0];have:=hh.2;rw[h0] at this;exact ih _ _ (by omega) this
theorem Xf{ρ:List C}{ops:List Oper}{x:Oper}{post:List Oper}:∀ {pre:List Oper} {S S':SS} {obs:List Ob},(∀a∈pre,indep cfg ops a x=true)->
  j6 P cfg ops (pre++x::post) S=some (S',obs)->dB P ρ S.nv obs->
  ∃S1 jo ig,oQ P cfg ops x S=some (S1,jo)/\j6 P cfg ops (pre++post) S1=some (S',ig)/\dB P ρ S.nv jo/\dB P ρ S1.nv ig
 | [],S,S',obs,_,h,ho=>by
  simp only[fJ,j6] at h;split at h
  .simp at h
  .rename_i S1 jo h1;split at h
   .simp at h
   .rename_i S2 ig h2;simp at h;obtain ⟨rfl,rfl⟩:=h;rw[rQ] at ho;exact ⟨S1,jo,ig,h1,h2,ho.1,by rw[rV h1];exact ho.2⟩
 |a::pre,S,S',obs,hi,h,ho=>by
  simp only[jc,j6] at h;split at h
  .simp at h
  .rename_i Sa PZ ha;split at h
   .simp at h
   .rename_i S2 ig h2;simp at h;obtain ⟨rfl,rfl⟩:=h;rw[rQ] at ho;obtain ⟨S3,P6,P5,h3,h4,ho3,P8⟩:=Xf (fun a' ha'=>hi a' (by simp[ha'])) h2 (by rw[rV ha];exact ho.2);obtain ⟨tH,e1,e2,e3⟩:=alV (hi a (by simp)) ha h3;have n1:=rV ha;have n2:=rV h3;have n3:=rV e1;have n4:=rV e2;simp only[eP] at e3;refine ⟨tH,P6,PZ++P5,e1,?_,?_,?_⟩
    .simp only[jc,j6,e2,h4]
    .rcases e3 with e|e
     .rw[show S.nv=Sa.nv by omega];exact ho3
     .exact GV _ _ _ e ho3
    .rw[rQ];refine ⟨?_,by rw[<-n4];exact P8⟩;rcases e3 with e|e
     .exact GV _ _ _ e ho.1
     .rw[show tH.nv=S.nv by omega];exact ho.1
end
section
variable{P:Program}{cfg:dA}{N0:Nat->Prop}{w0:Wb}{ρ:List C}{Q:Exit->Act->World->Prop}
def rem(listed:Array Bool):Nat->List Oper->List Oper
 |_,[]=> []
 |k,o::l=>if listed.getD k true then rem listed (k+1) l else o::rem listed (k+1) l
theorem DX{listed:Array Bool}:∀ {l:List Oper} {k i:Nat} {x:Oper},l[i]?=some x->listed.getD (k+i) true=false->
  rem listed k l=rem listed k (l.take i)++x::rem listed (k+i+1) (l.drop (i+1))
 | [],_,_,_,h,_=>by simp at h
 |o::l,k,0,x,h,hl=>by
  simp at h hl;subst h;simp[rem,hl]
 |o::l,k,i+1,x,h,hl=>by
  have ih:=DX (listed:=listed) (l:=l) (k:=k+1) (i:=i) (x:=x) (by simpa using h) (by rw[<-hl];congr 1;omega);simp only[wz,List.drop_succ_cons,rem];rw[ih,show k+1+i+1=k+(i+1)+1 by omega];split<;>simp
theorem Y9{listed listed':Array Bool}:∀ {l:List Oper} {k:Nat},(∀j,k<=j->j<k+l.length->listed'.getD j true=listed.getD j true)->rem listed' k l=rem listed k l
 | [],_,_=>rfl
 |o::l,k,h=>by
  simp only[rem];rw[h k (aI _) (by simp),Y9 (l:=l) fun j h1 h2=>h j (by omega) (by simp;omega)]
theorem NA{listed:Array Bool}:∀ {l:List Oper} {k i:Nat} {x:Oper},l[i]?=some x->listed.getD (k+i) true=false->k+i<listed.size->
  rem (listed.setIfInBounds (k+i) true) k l=rem listed k (l.take i)++rem listed (k+i+1) (l.drop (i+1))
 | [],_,_,_,h,_,_=>by simp at h
 |o::l,k,0,x,h,hl,hs=>by
  have e1:(listed.setIfInBounds k true).getD k true=true:=by
   simp at hs;simp[Array.getD,hs]
  simp only[Nat.add_zero,List.take_zero,rem,fJ,e1,if_true];simp only[List.drop_succ_cons,pz];exact Y9 fun j h1 _=>getD_set_ne true (by omega)
 |o::l,k,i+1,x,h,hl,hs=>by
  have ih:=NA (listed:=listed) (l:=l) (k:=k+1) (i:=i) (x:=x) (by simpa using h) (by rw[<-hl];congr 1;omega) (by omega);simp only[wz,List.drop_succ_cons,rem];rw[show k+1+i=k+(i+1) by omega] at ih;rw[ih,getD_set_ne true (by omega)];split<;>simp
theorem Er{listed:Array Bool}:∀ {l:List Oper} {k:Nat} {a:Oper},a∈rem listed k l->∃j,l[j]?=some a/\listed.getD (k+j) true=false
 | [],_,_,h=>by simp[rem] at h
 |o::l,k,a,h=>by
  simp only[rem] at h;split at h
  .obtain ⟨j,h1,h2⟩:=Er h;exact ⟨j+1,by simpa using h1,by rw[<-h2];congr 1;omega⟩
  .rename_i hk;rcases iH.1 h with h|h
   .subst h;exact ⟨0,rfl,by simpa using hk⟩
   .obtain ⟨j,h1,h2⟩:=Er h;exact ⟨j+1,by simpa using h1,by rw[<-h2];congr 1;omega⟩
theorem aa0{listed:Array Bool}{l:List Oper}{k:Nat}(h:∀j,j<l.length->listed.getD (k+j) true=true):rem listed k l=[]:=by
 cases hr:rem listed k l with
 |nil=>rfl
 |cons a r=>
  obtain ⟨j,h1,h2⟩:=Er (listed:=listed) (l:=l) (k:=k) (a:=a) (by rw[hr];simp);rw[h j (dF.1 h1).1] at h2;cases h2
theorem Zt(acc:List Nat):∀(l:List Edge) (m j:Nat),(l.foldl (fun m e=>if Region.binds .any e then m|||2^e.on|||acc.getD e.on 0 else m) m).testBit j=true->
  m.testBit j=true\/∃e∈l,Region.binds .any e=true/\(j=e.on\/(acc.getD e.on 0).testBit j=true)
 | [],m,j,h=> .inl h
 |e::l,m,j,h=>by
  simp only[AP] at h;rcases Zt acc l _ j h with h|⟨e',h1,h2,h3⟩
  .split at h
   .rename_i hb;simp only[Nat.testBit_or,Bool.or_eq_true,Nat.testBit_two_pow,bR] at h;rcases h with (h|h)|h
    .exact .inl h
    .exact .inr ⟨e,by simp,hb,.inl h.symm⟩
    .exact .inr ⟨e,by simp,hb,.inr h⟩
   .exact .inl h
  .exact .inr ⟨e',by simp[h1],h2,h3⟩
theorem Nj:∀(l:List Oper) (acc:List Nat) (i:Nat),i<acc.length->(pq l acc).getD i 0=acc.getD i 0
 | [],_,_,_=>rfl
 |o::l,acc,i,h=>by
  simp only[pq];rw[Nj l _ i (by simp;omega)];simp[List.getD,rD h]
theorem MV:∀(l:List Oper) (acc:List Nat) (k:Nat) (o:Oper) (j:Nat),l[k]?=some o->((pq l acc).getD (acc.length+k) 0).testBit j=true->
  ∃e∈o.after.toList,Region.binds .any e=true/\(j=e.on\/((pq l acc).getD e.on 0).testBit j=true)
 | [],_,_,_,_,h,_=>by simp at h
 |o::l,acc,0,x,j,h,hb=>by
  simp at h;subst h;simp only[pq,Nat.add_zero] at hb |-;rw[Nj l _ acc.length (by simp)] at hb;simp only[List.getD,yJ (aI _),Nat.sub_self,List.getElem?_cons_zero,yL] at hb;rcases Zt acc _ 0 j hb with h|⟨e,h1,h2,h3⟩
  .simp at h
  .refine ⟨e,h1,h2,h3.imp id fun h=>?_⟩;have hlt:e.on<acc.length:=by
    rcases Nat.lt_or_ge e.on acc.length with h'|h'
    .exact h'
    .simp[List.getD,C8 h'] at h
   rw[Nj l _ e.on (by simp;omega)];simpa [List.getD,rD hlt] using h
 |o::l,acc,k+1,x,j,h,hb=>by
  simp only[pq] at hb |-;exact MV l _ k x j (by simpa using h) (by simpa [oD,Nat.add_comm 1 k] using hb)
theorem Br{α:Type}{l:List α}{p:α×Nat->Bool}(h:l.zipIdx.all p=true){i:Nat}{x:α}(hx:l[i]?=some x):p (x,i)=true:=by
 rw[nE] at h;exact h (x,i) (by rw[List.mk_mem_zipIdx_iff_getElem?];exact hx)
theorem am8{ops:List Oper}(hok:xk P cfg ops=true){S':SS}(hq:∀a' w',(∃hv',aJ P N0 w0 ρ S' hv' a' w')->Q .normal a' w'):
  ∀(fuel:Nat) (listed:Array Bool) (S:SS) (hv:Nat->Value) (a:Act) (w:World) (obs:List Ob),aJ P N0 w0 ρ S hv a w->
   j6 P cfg ops (rem listed 0 ops) S=some (S',obs)->dB P ρ S.nv obs->listed.size=ops.length->(rem listed 0 ops).length<=fuel->
   (∀i,listed.getD i false=true->∀j,((pq ops []).getD i 0).testBit j=true->listed.getD j false=true)->wpAny P .any ops.toArray Q fuel listed a w:=by
 simp only[xk,aP] at hok;obtain ⟨-,hback,EU⟩:=hok;have hgd:∀(listed:Array Bool) (i:Nat),listed.size=ops.length->i<ops.length->listed.getD i true=listed.getD i false:=by
  intro listed i h1 h2;have:i<listed.size:=by omega
  simp[Array.getD,this]
 have hnil:∀listed:Array Bool,listed.size=ops.length->Region.ready .any ops.toArray listed=[]->rem listed 0 ops=[]:=by
  intro listed hs hr;apply aa0;intro j hj;rw[iI];induction j using Nat.strongRecOn with
  |_ j ih=>
   cases hb:listed.getD j true with
   |true=>rfl
   |false=>
    exfalso;have hm:j∈Region.ready .any ops.toArray listed:=by
     rw[mem_ready];refine ⟨hb,ops[j],by simp[hj],fun e he hbe=>?_⟩;have h1:=Br hback (iK hj);simp only[nE] at h1;have h2:=h1 e (by simpa using he);simp[hbe] at h2;rw[<-hgd listed e.on hs (by omega)];exact ih e.on h2 (by omega)
    rw[hr] at hm;cases hm
 intro fuel;induction fuel with
 |zero=>
  intro listed S hv a w obs hrel hrun ho hs hf hcl;have h0:rem listed 0 ops=[]:=List.length_eq_zero_iff.1 (by omega);refine ⟨?_,?_⟩
  .cases hr:Region.ready .any ops.toArray listed with
   |nil=>rfl
   |cons i r=>
    have hm:i∈Region.ready .any ops.toArray listed:=by rw[hr];simp
    obtain ⟨h1,o,h2,_⟩:=mem_ready.1 hm;rw[DX (listed:=listed) (l:=ops) (k:=0) (i:=i) (x:=o) (by simpa using h2) (by simpa using h1)] at h0;simp at h0
  .rw[h0] at hrun;simp[j6] at hrun;obtain ⟨rfl,rfl⟩:=hrun;exact hq a w ⟨hv,hrel⟩
 |succ fuel ih=>
  intro listed S hv a w obs hrel hrun ho hs hf hcl;refine ⟨fun hr=>?_,fun i hi=>?_⟩
  .rw[hnil listed hs hr] at hrun;simp[j6] at hrun;obtain ⟨rfl,rfl⟩:=hrun;exact hq a w ⟨hv,hrel⟩
  .obtain ⟨h1,x,h2,hall⟩:=mem_ready.1 hi;have hx:ops[i]?=some x:=by simpa using h2
   have hlt:i<ops.length:=(dF.1 hx).1;have F5:∀j,((pq ops []).getD i 0).testBit j=true->listed.getD j false=true:=by
    intro j hj;obtain ⟨e,he,hb,h3⟩:=MV ops [] i x j hx (by simpa using hj);have hl:=hall e (by simpa using he) hb;rcases h3 with rfl|h3
    .exact hl
    .exact hcl e.on hl j h3
   have hsp:=DX (listed:=listed) (l:=ops) (k:=0) (i:=i) (x:=x) hx (by simpa using h1);have hst:=NA (listed:=listed) (l:=ops) (k:=0) (i:=i) (x:=x) hx (by simpa using h1) (by omega);rw[iI] at hst hsp;rw[hsp] at hrun;have PL:∀b∈rem listed 0 (ops.take i),indep cfg ops b x=true:=by
    intro b hb;obtain ⟨j,hj,hjl⟩:=Er hb;rw[iI] at hjl;rw[mR] at hj;split at hj
    .rename_i hji;have h3:=Br (Br EU hx) hj;simp only[Bool.or_eq_true,Bool.not_eq_true',kP] at h3;rcases h3 with (h3|h3)|h3
     .exact absurd hji h3
     .have:=F5 j h3;rw[<-hgd listed j hs (by omega),hjl] at this;cases this
     .exact h3
    .cases hj
   obtain ⟨S1,jo,ig,e1,e2,o1,o2⟩:=Xf PL hrun ho;have next:∀a' w',(∃hv',aJ P N0 w0 ρ S1 hv' a' w')->wpAny P .any ops.toArray Q fuel (listed.setIfInBounds i true) a' w':=by
    rintro a' w' ⟨hv',hr'⟩;refine ih _ S1 hv' a' w' ig hr' (by rw[hst];exact e2) o2 (by simpa using hs) ?_ ?_
    .rw[hst];rw[hsp] at hf;simp at hf |-;omega
    .intro q hq' j hj;by_cases hqi:i=q
     .subst hqi;exact getD_set_true (F5 j hj)
     .rw[getD_set_ne false hqi] at hq';exact getD_set_true (hcl q hq' j hj)
   unfold wpOp;simp only[h2];have hss:=LW (Q:=Q) hrel e1 o1;split
   .rename_i hw;rw[if_pos hw] at hss;exact .inl (Oper.wp_mono next hss)
   .rename_i hw;rw[if_neg hw] at hss;exact next _ _ hss
theorem VP{id:Nat}{ops:Array Oper}{draw:Bool}{S S':SS}{hv:Nat->Value}{a:Act}{w:World}{obs:List Ob}(hrel:aJ P N0 w0 ρ S hv a w)
  (hd:(draw&& !xk P cfg ops.toList)=false) (h:j6 P cfg ops.toList ops.toList S=some (S',obs)) (ho:dB P ρ S.nv obs)
  (hq:∀a' w',(∃hv',aJ P N0 w0 ρ S' hv' a' w')->Q .normal a' w'):(Code.region id ops draw).wp P Q a w:=by
 cases draw with
 |false=>
  refine wp_region_list ?_;have:=Lh (Q:=Q) hrel h ho hq;simpa using this
 |true=>
  simp at hd;have hm:P.follows .mixedOrders=true:=by simp only[xk,aP] at hd;exact hd.1
  refine wp_region_any hm ?_;have key:∀(l:List Oper) (k n:Nat),k+l.length<=n->rem (Array.replicate n false) k l=l:=by
   intro l;induction l with
   |nil=>intros;rfl
   |cons o l ih=>
    intro k n hk;simp at hk;have:(Array.replicate n false).getD k true=false:=by simp[Array.getD,show k<n by omega]
    simp only[rem,this];rw[ih (k+1) n (by omega)];simp
  have hk:=key ops.toList 0 ops.size (by simp);have:=am8 (Q:=Q) hd hq ops.size (Array.replicate ops.size false) S hv a {w with drawn:=w.drawn+1} obs (hrel.drew _) (by rw[hk];exact h) ho (by simp) (by rw[hk];simp)
   (fun i hi=>by exfalso;by_cases hlt:i<ops.size<;>simp[Array.getD,hlt] at hi)
  simpa using this
end
end Go.Vc
