/-
  My own general texts, one behind the other: a generator of conditions over the model, with its proof, and plain lemmas. No condition on the program.
-/
import Derived.Test.YtaehhpempnelhaaGreatDoorQBase1
import Derived.Lib.OthersKept

namespace Go.Vc
open Go.RowKit
section
variable {P:Program} {w:World} {N:Nat→Prop}
/-- One round of the model's loop over fields. -/
def eqRound (d:Nat) (xs ys:Array Value) (f:Field):Sem (ForInStep (Option Bool×Unit)):=
 if f.name= "_" then pure (ForInStep.yield (none,()))
 else do
  let a ←part f.type xs f.offset
  let b ←part f.type ys f.offset
  let q ←Op.equalIn d f.type a b
  if q=false then pure (ForInStep.done (some false,())) else pure (ForInStep.yield (none,()))
theorem eqLoop {R:TypeId→Sh→Bool} {d:Nat} (ih:∀t s us vs c c',R t s=true→Rd w N s us c→Rd w N s vs c'→(Op.equalIn d t (s.mk us) (s.mk vs)).run P w= .ok (dataEq s c c') w):
  ∀(fs:List Field) (s:Sh) (off:Nat) (pre pre' us vs:List Value) (c c':C),eqFields P R fs s off=true→pre.length=off→pre'.length=off→Rd w N s us c→Rd w N s vs c'→
  (forIn fs ((none,()):Option Bool×Unit) fun f _=>eqRound d (pre++us).toArray (pre'++vs).toArray f).run P w= .ok (if dataEq s c c' then (none,()) else (some false,())) w
 | [],s,off,pre,pre',us,vs,c,c',h,_,_,_,_=>by
  cases s<;>simp[eqFields] at h
  simp[dataEq]
 |f::fs,s,off,pre,pre',us,vs,c,c',h,hp,hp',hu,hv=>by
  cases s with
  |pair a b=>
   simp only[eqFields,Bool.and_eq_true,fieldOk,decide_eq_true_eq] at h
   obtain ⟨⟨⟨⟨h1,h2⟩,h3⟩,h4⟩,h5⟩:=h
   obtain ⟨_,ua,ub,rfl,hua,hub⟩:=hu
   obtain ⟨_,va,vb,rfl,hva,hvb⟩:=hv
   have hn:¬f.name= "_" :=by simpa using h3
   have p1:(part f.type (pre++(ua++ub)).toArray f.offset).run P w= .ok (a.mk ua) w:=run_part h2 (by rw[h1,←hp];simp[←hua.length]) hua.length
   have p2:(part f.type (pre'++(va++vb)).toArray f.offset).run P w= .ok (a.mk va) w:=run_part h2 (by rw[h1,←hp'];simp[←hva.length]) hva.length
   have p3:=ih f.type a ua va c.hd c'.hd h4 hua hva
   have hr:=eqLoop ih fs b (off+a.size) (pre++ua) (pre'++va) ub vb c.tl c'.tl h5 (by simp[hp,hua.length]) (by simp[hp',hva.length]) hub hvb
   rw[List.forIn_cons,Sem.run_bind]
   have hround:(eqRound d (pre++(ua++ub)).toArray (pre'++(va++vb)).toArray f).run P w= .ok (if dataEq a c.hd c'.hd then ForInStep.yield (none,()) else ForInStep.done (some false,())) w:=by
    unfold eqRound
    rw[if_neg hn]
    simp only[Sem.run_bind,p1,p2,p3,Result.andThen_ok]
    cases dataEq a c.hd c'.hd<;>simp
   rw[hround]
   simp only[Result.andThen_ok]
   cases hq:dataEq a c.hd c'.hd with
   |false=>simp[dataEq,hq]
   |true=>
    simp only[dataEq,hq,Bool.true_and,if_true]
    simp only[List.append_assoc] at hr
    exact hr
  |_=>simp[eqFields] at h
theorem eqFields_agg {R:TypeId→Sh→Bool} {fs:List Field} {s:Sh} {off:Nat} (h:eqFields P R fs s off=true):s.isAgg=true:=by
 cases fs<;>cases s<;>simp[eqFields,Sh.isAgg] at h ⊢
theorem equalIn_sound:∀(n:Nat) (t:TypeId) (s:Sh) (us vs:List Value) (c c':C),eqOk P n t s=true→Rd w N s us c→Rd w N s vs c'→∀d,n≤d→(Op.equalIn d t (s.mk us) (s.mk vs)).run P w= .ok (dataEq s c c') w:=by
 intro n
 induction n with
 |zero=>intro t s us vs c c' h;simp[eqOk] at h
 |succ n ih=>
  intro t s us vs c c' h hu hv d hd
  obtain ⟨d,rfl⟩:∃d',d=d'+1:=⟨d-1,by omega⟩
  unfold eqOk at h
  split at h
  ·rename_i ht
   simp only[Rd] at hu hv
   subst hu hv
   simp[Op.equalIn,run_underlying ht,Sh.mk,Sh.isAgg,dataEq]
  ·rename_i k k' ht
   simp only[decide_eq_true_eq] at h
   subst h
   simp only[Rd] at hu hv
   subst hu hv
   simp[Op.equalIn,run_underlying ht,Sh.mk,Sh.isAgg,dataEq]
  ·rename_i ht
   simp only[Rd] at hu hv
   subst hu hv
   have hb:∀x y:List UInt8,((⟨x.toArray⟩:ByteArray)==⟨y.toArray⟩)=(x==y):=by
    intro x y
    show (x.toArray==y.toArray)=_
    simp
   simp[Op.equalIn,run_underlying ht,Sh.mk,Sh.isAgg,dataEq,hb]
  ·rename_i s _ _ fs ht
   simp only[Bool.and_eq_true,Bool.not_eq_true'] at h
   obtain ⟨hst,hf⟩:=h
   have hag:=eqFields_agg hf
   have hl:=eqLoop (P:=P) (w:=w) (N:=N) (R:=eqOk P n) (d:=d) (fun t s us vs c c' h1 h2 h3=>ih t s us vs c c' h1 h2 h3 d (by omega)) fs.toList s 0 [] [] us vs c c' hf rfl rfl hu hv
   obtain ⟨fl⟩:=fs
   simp only[List.nil_append] at hl
   unfold eqRound at hl
   rw[Op.equalIn]
   simp only[Sh.mk,hag,if_true]
   simp[run_underlying ht,hst]
   rw[hl]
   cases dataEq s c c'<;>simp
  ·cases h
variable {ρ:List C} {bs:List Blk} {hv:Nat→Value}
theorem binX_agg {raw:Bool} {pc:Pres} {op:BinOp} {xt:TypeId} {s s':Sh} {ex ey:E} {out:Out} {vx vy:Value} {ox oy:Operand}
  (h:binX P raw pc op xt s ex s' ey=some out) (hagg:s.isAgg=true)
  (hx:RdX w N ρ bs hv (.dat s ex) vx) (hy:RdX w N ρ bs hv (.dat s' ey) vy):
  out.cmds=[]∧out.nv=0∧VRun P w N ρ bs hv (do eqGuard op xt ox oy vx vy;binOp op xt vx vy) out.x:=by
 unfold binX at h
 split at h
 ·cases hagg
 ·cases hagg
 ·cases hagg
 ·cases hagg
 ·split at h
  ·rename_i hok
   simp only[Bool.and_eq_true,decide_eq_true_eq,Bool.not_eq_true'] at hok
   obtain ⟨⟨⟨rfl,_⟩,heq⟩,hg⟩:=hok
   obtain ⟨us,h1,h2,_⟩:=hx
   obtain ⟨vs,h3,h4,_⟩:=hy
   have he:=equalIn_sound (P:=P) (w:=w) 5 xt s us vs _ _ heq h1 h3 10000 (by omega)
   have hgd:∀op,(eqGuard op xt ox oy vx vy).run P w= .ok () w:=by
    intro op
    rw[h2,h4]
    simp only[Sh.mk,hagg,if_true]
    cases op<;>simp[eqGuard,hg]
   have hbx:vx= .agg us.toArray:=by rw[h2];simp[Sh.mk,hagg]
   have hby:vy= .agg vs.toArray:=by rw[h4];simp[Sh.mk,hagg]
   rw[←h2,←h4] at he
   split at h
   ·simp at h
    subst h
    refine ⟨rfl,rfl,.bool (dataEq s (ex.eval ρ) (ey.eval ρ)),?_,by rw[RdX_bool];rfl⟩
    have hb:(binOp .eql xt vx vy).run P w= .ok (.bool (dataEq s (ex.eval ρ) (ey.eval ρ))) w:=by
     rw[hbx,hby] at he ⊢
     simp only[binOp]
     simp[Op.equal,Op.maxDepth,he]
    simp[hgd,hb]
   ·simp at h
    subst h
    refine ⟨rfl,rfl,.bool (!dataEq s (ex.eval ρ) (ey.eval ρ)),?_,by rw[RdX_bool];rfl⟩
    have hb:(binOp .neq xt vx vy).run P w= .ok (.bool (!dataEq s (ex.eval ρ) (ey.eval ρ))) w:=by
     rw[hbx,hby] at he ⊢
     simp only[binOp]
     simp[Op.equal,Op.maxDepth,he]
    simp[hgd,hb]
   ·simp at h
  ·simp at h
end
end Go.Vc

namespace Go.Vc
open Go.RowKit

section
variable {P:Program} {w:World} {B:Nat→Prop} {N:Nat→Prop} {ρ:List C} {bs:List Blk} {hv:Nat→Value}
theorem argsX_sound (hrows:RowsOk w B N ρ bs hv) {pc:Pres} (hp:presTrue ρ pc) {ev:Ev} {a:Act} (hev:∀o t x,ev pc o t=some x→RdX w N ρ bs hv x (a.eval o)):
  ∀ {os:List Operand} {ts:List TypeId} {l:List (Sh×E)} {f:List Nat},argsX ev (rbOf bs) pc os ts=some (l,f)→
  (∀q∈f,LiveAt bs ρ q)∧RdVs w (NF N hv f) (evalArgs ρ l) (os.map a.eval)
 | [],ts,l,f,h=>by
  simp[argsX] at h
  obtain ⟨rfl,rfl⟩:=h
  exact ⟨by simp,rfl⟩
 |o::os,ts,l,f,h=>by
  simp only[argsX] at h
  split at h
  ·rename_i s e fx l' g hd hb
   simp at h
   obtain ⟨rfl,rfl⟩:=h
   obtain ⟨x,hx1,hx2⟩:=Option.bind_eq_some_iff.1 hd
   have d:=RdX_dat (datOf_sound hrows hp hx2 (hev o _ x hx1))
   obtain ⟨r1,r2⟩:=argsX_sound hrows hp hev hb
   have m1:∀b,NF N hv fx b→b<w.heap.size→w.heap[b]?=w.heap[b]?∧NF N hv (fx++g) b:=fun b hb _=>⟨rfl,NF_left hb⟩
   have m2:∀b,NF N hv g b→b<w.heap.size→w.heap[b]?=w.heap[b]?∧NF N hv (fx++g) b:=fun b hb _=>⟨rfl,NF_right hb⟩
   refine ⟨?_,_,_,rfl,d.mono (Nat.le_refl _) m1,r2.mono (Nat.le_refl _) m2⟩
   intro q hq
   rcases List.mem_append.1 hq with hq|hq
   ·exact datOf_rows hp hx2 q hq
   ·exact r1 q hq
  ·simp at h
theorem Rd_prim {w':World} {N':Nat→Prop}:∀ {s:Sh} {vs:List Value} {c:C},s.prim=true→Rd w N s vs c→Rd w' N' s vs c
 | .int _,_,_,_,h| .bool,_,_,_,h| .str,_,_,_,h| .unit,_,_,_,h=>h
 | .sl _,_,_,hp,_=>by cases hp
 | .mp _ _,_,_,hp,_=>by cases hp
 | .ifc _ _,_,_,hp,_=>by cases hp
 | .nili,_,_,_,h| .fun_ _,_,_,_,h=>h
 | .pair a b,_,_,hp,⟨h0,va,vb,h1,h2,h3⟩=>by
  simp only[Sh.prim,Bool.and_eq_true] at hp
  exact ⟨h0,va,vb,h1,Rd_prim hp.1 h2,Rd_prim hp.2 h3⟩
theorem RdVs_prim {w':World} {N':Nat→Prop}:∀ {l:List (Sh×C)} {vs:List Value},(∀x∈l,x.1.prim=true)→RdVs w N l vs→RdVs w' N' l vs
 | [],_,_,h=>h
 |(s,c)::l,_,hp,⟨v,r,h1,⟨us,h2,h3⟩,h4⟩=>⟨v,r,h1,⟨us,Rd_prim (hp (s,c) (by simp)) h2,h3⟩,RdVs_prim (fun x hx=>hp x (by simp[hx])) h4⟩
theorem RdVs_length:∀ {l:List (Sh×C)} {vs:List Value},RdVs w N l vs→vs.length=l.length
 | [],_,h=>by simp only[RdVs] at h;subst h;rfl
 |(_,_)::_,_,⟨v,r,h1,_,h4⟩=>by subst h1;simp[RdVs_length h4]
theorem eval_retVars:∀(rets:List Sh) (nv:Nat),nv+rets.length≤ρ.length→evalArgs ρ (retVars nv rets)=rets.zip ((ρ.drop nv).take rets.length)
 | [],nv,_=>rfl
 |s::rets,nv,h=>by
  simp only[List.length_cons] at h
  have hlt:nv<ρ.length:=by omega
  have ih:=eval_retVars rets (nv+1) (by omega)
  simp only[retVars,evalArgs,List.map_cons,List.length_cons] at ih ⊢
  rw[List.drop_eq_getElem_cons hlt,List.take_succ_cons,List.zip_cons_cons,←ih]
  simp[E.eval,List.getD,hlt]
theorem resX_sound {l:List (Sh×E)} {v:Value} (hl:∀x∈l,∀vs,Exact x.1 x.2 vs) (h:RdRes w N (evalArgs ρ l) v):RdX w N ρ bs hv (resX l) v:=by
 obtain ⟨vs,h1,h2⟩:=h
 have hlen:=RdVs_length h1
 unfold resX
 split
 ·rename_i s e
  obtain ⟨u,r,rfl,h3,h4⟩:=h1
  simp only[List.map_nil,RdVs] at h4
  subst h4
  simp at h2
  subst h2
  exact RdX_of h3 (hl (s,e) (by simp))
 ·rename_i hne
  refine ⟨⟨vs,?_,h1⟩,hl⟩
  rw[h2]
  have:¬vs.length=1:=by
   intro h
   rw[hlen] at h
   match l,h with
   | [(s,e)],_=>exact hne s e rfl
  simp[this]
theorem retVars_exact:∀(rets:List Sh) (nv:Nat),∀x∈retVars nv rets,∀vs,Exact x.1 x.2 vs
 | [],_,x,hx=>by simp[retVars] at hx
 |s::rets,nv,x,hx=>by
  simp only[retVars,List.mem_cons] at hx
  rcases hx with rfl|hx
  ·exact Exact_leaf (by simp) (by simp)
  ·exact retVars_exact rets (nv+1) x hx
end
section
variable {P:Program} {cfg:Cfg} {N0:Nat→Prop} {w0:Wb} {ρ:List C} {S:SS} {hv:Nat→Value} {a:Act} {w:World} {o:Oper} {Q:Exit→Act→World→Prop} {pc:Pres}
theorem RelH.newN (h:RelH P N0 w0 ρ S hv a w) {b:Nat} (hb:w.heap.size≤b):NN N0 w0.own ρ S.blks hv b:=
 ⟨.inr (.inl (Nat.le_trans h.below.size hb)),fun r k hr hl _ hp hg=>by have:=(h.lt hr hl hp hg).1;omega⟩
/-- The end of a step. -/
theorem fin_step {x:SX} {v:Value} {w':World} {hv':Nat→Value} {bs':List Blk} {nv':Nat} (hr:(execOp a.eval o).run P w= .ok (.value v) w') (hrel:RelH P N0 w0 ρ {S with blks:=bs'} hv' a w')
  (hx:RdX w' (NN N0 w0.own ρ bs' hv') ρ bs' hv' x v) (hp:presTrue ρ pc):
  o.wp P a w (fun a' w'=>∃hv',RelH P N0 w0 ρ {tmps:=putT S.tmps o.dst ⟨pc,x⟩,blks:=bs',nv:=nv'} hv' a' w') Q:=by
 unfold Oper.wp
 rw[hr]
 exact ⟨hv',(hrel.put o.dst pc x v (fun _=>hx) (fun h=>absurd hp h)).nv nv'⟩
theorem fin_plain (hrel:RelH P N0 w0 ρ S hv a w) (hp:presTrue ρ pc) {out:Out} {m:Sem Value} (hc:out.cmds=[]) (hr:∀v,m.run P w= .ok v w→(execOp a.eval o).run P w= .ok (.value v) w)
  (hm:VRun P w (NN N0 w0.own ρ S.blks hv) ρ S.blks hv m out.x):
  o.wp P a w (fun a' w'=>∃hv',RelH P N0 w0 ρ {tmps:=putT S.tmps o.dst ⟨pc,out.x⟩,blks:=runCmds out.cmds S.blks,nv:=S.nv+out.nv} hv' a' w') Q:=by
 obtain ⟨v,h1,h2⟩:=hm
 rw[hc]
 exact fin_step (hr v h1) hrel h2 hp
theorem fin_grun (hrel:RelH P N0 w0 ρ S hv a w) (hp:presTrue ρ pc) {out:Out} {m:Sem Value} (hc:out.cmds=[]) (hr:∀v w',m.run P w= .ok v w'→(execOp a.eval o).run P w= .ok (.value v) w')
  (hm:GRun P w (NN N0 w0.own ρ S.blks hv) ρ S.blks hv m out.x):
  o.wp P a w (fun a' w'=>∃hv',RelH P N0 w0 ρ {tmps:=putT S.tmps o.dst ⟨pc,out.x⟩,blks:=runCmds out.cmds S.blks,nv:=S.nv+out.nv} hv' a' w') Q:=by
 obtain ⟨v,w',h1,h2,h3⟩:=hm
 rw[hc]
 exact fin_step (hr v w' h1) (hrel.grow h2) h3 hp
theorem fin_frz (hrel:RelH P N0 w0 ρ S hv a w) (hp:presTrue ρ pc) {out:Out} {f:List Nat} (hc:out.cmds=f.map .frz) (hf:∀q∈f,LiveAt S.blks ρ q) {u:Value} {w':World}
  (hr:(execOp a.eval o).run P w= .ok (.value u) w') (hb:Below w.heap.size w w') (hx:RdX w' (NF (NN N0 w0.own ρ S.blks hv) hv f) ρ S.blks hv out.x u):
  o.wp P a w (fun a' w'=>∃hv',RelH P N0 w0 ρ {tmps:=putT S.tmps o.dst ⟨pc,out.x⟩,blks:=runCmds out.cmds S.blks,nv:=S.nv+out.nv} hv' a' w') Q:=by
 rw[hc]
 refine fin_step hr ((hrel.grow hb).frzs f) ?_ hp
 exact hx.le (Nat.le_refl _) (fun b hb' _=>⟨rfl,(hrel.grow hb).nf hb' hf⟩) (frzs_le ρ hv f S.blks)
theorem RdVs_at {N:Nat→Prop} {s:Sh} {e:E}:∀ {l:List (Sh×E)} {vs:List Value} {i:Nat},RdVs w N (evalArgs ρ l) vs→l[i]?=some (s,e)→∃v,vs[i]?=some v∧RdV w N s v (e.eval ρ):=by
 intro l
 induction l with
 |nil=>intro vs i _ hi;simp at hi
 |cons x l ih=>
  intro vs i hv hi
  obtain ⟨v,r,rfl,g1,g2⟩:=hv
  cases i with
  |zero=>simp at hi;subst hi;exact ⟨v,rfl,g1⟩
  |succ i=>simpa using ih g2 (by simpa using hi)
theorem call_go (hrel:RelH P N0 w0 ρ S hv a w) (hp:presTrue ρ pc) {f:Nat} (hlt:f<1000000) {l:List (Sh×E)} {frz:List Nat} {rets:List Sh} {vs:List Value} (h1:∀q∈frz,LiveAt S.blks ρ q)
  (h2:RdVs w (NF (NN N0 w0.own ρ S.blks hv) hv frz) (evalArgs ρ l) vs) (hexec:Callable P f→(execOp a.eval o).run P w= .ok (.enter f vs.toArray) w) (ho:obsHold P ρ S.nv [.call pc f l rets]):
  o.wp P a w (fun a' w'=>∃hv',RelH P N0 w0 ρ {tmps:=putT S.tmps o.dst ⟨pc,resX (retVars S.nv rets)⟩,blks:=runCmds (if rets.all Sh.prim then [] else frz.map .frz) S.blks,nv:=S.nv+rets.length} hv' a' w') Q:=by
 obtain ⟨hpc0,hlen⟩:=ho.1 hp
 obtain ⟨hcall,hpc⟩:=hpc0.to0 hlt
 have hcalls:=hpc w (NF (NN N0 w0.own ρ S.blks hv) hv frz) vs hrel.below.now h2
 have hrun:=hexec hcall
 unfold Oper.wp
 rw[hrun,Oper.upon_enter]
 refine hcalls.mono fun e w' he=>?_
 obtain ⟨v,rfl,hres,hbel⟩:=he
 have hg:=hrel.grow hbel
 have hex:=retVars_exact rets S.nv
 have hev:evalArgs ρ (retVars S.nv rets)=rets.zip ((ρ.drop S.nv).take rets.length):=by
  rcases hlen with h0|hlen
  ·subst h0;rfl
  ·exact eval_retVars (ρ:=ρ) rets S.nv hlen
 rw[←hev] at hres
 by_cases hprim:rets.all Sh.prim=true
 ·simp only[hprim,if_true]
  refine ⟨hv,(hg.put o.dst pc _ v (fun _=>resX_sound hex ?_) (fun h=>absurd hp h)).nv _⟩
  obtain ⟨vs,r1,r2⟩:=hres
  refine ⟨vs,RdVs_prim (fun x hx=>?_) r1,r2⟩
  rw[hev] at hx
  have:=(List.of_mem_zip hx).1
  simp only[List.all_eq_true] at hprim
  exact hprim _ this
 ·simp only[hprim]
  refine ⟨hv,((hg.frzs frz).put o.dst pc _ v (fun _=>resX_sound hex ?_) (fun h=>absurd hp h)).nv _⟩
  obtain ⟨vs,r1,r2⟩:=hres
  refine ⟨vs,r1.mono (Nat.le_refl _) (fun b hb _=>⟨rfl,?_⟩),r2⟩
  rcases hb with hb|hb
  ·exact hg.nf hb h1
  ·exact frzs_NN frz (hrel.newN hb)
theorem exec_value {f:Nat} {args:Array Operand} {ts:Array TypeId} {x:Operand} (hop:o.op= .call {callee:= .value x,args:=args,argTypes:=ts}) (hx:a.eval x= .func (.func f) #[] #[]) (hc:Callable P f):
  (execOp a.eval o).run P w= .ok (.enter f (args.toList.map a.eval).toArray) w:=by
 obtain ⟨fn,hfn,hbody,hname⟩:=hc
 have hn:¬fn.name= "runtime.NumGoroutine" :=by simpa using hname
 have hb:¬fn.body=none:=by intro h;simp[h] at hbody
 have harr:(args.toList.map a.eval).toArray=args.map a.eval:=by apply Array.ext';simp
 rw[harr]
 simp[execOp,hop,resolve,Deferred.ofValue,hx,invoke,callFunc,hfn,hn,hb]
theorem callX_go (hrel:RelH P N0 w0 ρ S hv a w) (hp:presTrue ρ pc) {f:Nat} {args:Array Operand} {ts:Array TypeId} (hop:o.op= .call {callee:= .value (.func f),args:=args,argTypes:=ts}) (hlt:f<1000000)
  {l:List (Sh×E)} {frz:List Nat} {rets:List Sh} (ha:argsX (S.ev P) S.rb pc args.toList ts.toList=some (l,frz)) (ho:obsHold P ρ S.nv [.call pc f l rets]):
  o.wp P a w (fun a' w'=>∃hv',RelH P N0 w0 ρ {tmps:=putT S.tmps o.dst ⟨pc,resX (retVars S.nv rets)⟩,blks:=runCmds (if rets.all Sh.prim then [] else frz.map .frz) S.blks,nv:=S.nv+rets.length} hv' a' w') Q:=by
 obtain ⟨h1,h2⟩:=argsX_sound hrel.rows hp (fun o t x=>ev_sound hrel hp) ha
 exact call_go hrel hp hlt h1 h2 (exec_value hop rfl) ho
theorem callX_sound (hrel:RelH P N0 w0 ρ S hv a w) (hp:presTrue ρ pc) {out:Out} {f:Nat} {args:Array Operand} {ts:Array TypeId} (hop:o.op= .call {callee:= .value (.func f),args:=args,argTypes:=ts})
  {rs:Option (List Sh)} (h:callX P rs (S.ev P) S.rb pc S.nv f args.toList ts.toList=some out) (ho:obsHold P ρ S.nv out.obs):
  o.wp P a w (fun a' w'=>∃hv',RelH P N0 w0 ρ {tmps:=putT S.tmps o.dst ⟨pc,out.x⟩,blks:=runCmds out.cmds S.blks,nv:=S.nv+out.nv} hv' a' w') Q:=by
 unfold callX at h
 split at h
 ·rename_i l frz rets ha
  split at h
  ·rename_i hlt
   simp only[Option.some.injEq] at h
   subst h
   exact callX_go hrel hp hop hlt ha ho
  ·simp at h
 ·simp at h
theorem nilled_sound {N:Nat→Prop} {w':World} {N':Nat→Prop}:∀ {s:Sh} {us:List Value} {e:E},Rd w N s us (e.eval ρ)→NilL s us→Rd w' N' s us ((nilled s e).eval ρ)∧Exact s (nilled s e) us
 | .int _,_,_,h,_| .bool,_,_,h,_| .str,_,_,h,_=>⟨h,trivial⟩
 | .unit,_,_,h,_=>⟨h,trivial⟩
 | .nili,_,_,h,_| .fun_ _,_,_,h,_=>⟨h,trivial⟩
 | .ifc _ _,_,_,_,hn| .mp _ _,_,_,_,hn=>hn.elim
 | .sl e,us,_,_,hn=>by
  simp only[NilL] at hn
  subst hn
  exact ⟨⟨none,0,rfl,Nat.le_refl _,Nat.zero_le _,fun hne=>absurd rfl hne⟩,rfl⟩
 | .pair a b,us,e,h,hn=>by
  obtain ⟨h0,va,vb,h1,h2,h3⟩:=h
  obtain ⟨na,nb,n1,n2,n3,n4⟩:=hn
  have hl:va.length=na.length:=by rw[h2.length,n2]
  obtain ⟨rfl,rfl⟩:va=na∧vb=nb:=List.append_inj (h1.symm.trans n1) hl
  have ha:Rd w N a va ((mkHd e).eval ρ):=by rw[eval_mkHd];exact h2
  have hb:Rd w N b vb ((mkTl e).eval ρ):=Rd.of_list h0 (eval_mkTl ρ e).symm h3
  obtain ⟨a1,a2⟩:=nilled_sound ha n3
  obtain ⟨b1,b2⟩:=nilled_sound hb n4
  refine ⟨⟨h0,va,vb,h1,?_,?_⟩,va,vb,h1,n2,a2,b2⟩
  ·simpa [nilled,E.eval] using a1
  ·exact Rd.of_list h0 (by simp[nilled,E.eval]) b1
theorem callN_sound (hrel:RelH P N0 w0 ρ S hv a w) (hp:presTrue ρ pc) {out:Out} {f:Nat} {args:Array Operand} {ts:Array TypeId} (hop:o.op= .call {callee:= .value (.func f),args:=args,argTypes:=ts})
  (h:callN P (S.ev P) S.rb pc S.nv o.type f args.toList ts.toList=some out) (ho:obsHold P ρ S.nv out.obs):
  o.wp P a w (fun a' w'=>∃hv',RelH P N0 w0 ρ {tmps:=putT S.tmps o.dst ⟨pc,out.x⟩,blks:=runCmds out.cmds S.blks,nv:=S.nv+out.nv} hv' a' w') Q:=by
 unfold callN at h
 split at h
 ·rename_i l frz s ha hrt
  simp only[Option.some.injEq] at h
  subst h
  obtain ⟨h1,h2⟩:=argsX_sound hrel.rows hp (fun o t x=>ev_sound hrel hp) ha
  obtain ⟨hpc0,hlen⟩:=ho.1 hp
  obtain ⟨s',c,hrets,⟨fn,hfn,hbody,hname⟩,hpc⟩:=hpc0.toN
  have hcalls:=hpc w (NF (NN N0 w0.own ρ S.blks hv) hv frz) (args.toList.map a.eval) hrel.below.now h2
  have hrun:(execOp a.eval o).run P w= .ok (.enter f (args.toList.map a.eval).toArray) w:=by
   have hn:¬fn.name= "runtime.NumGoroutine" :=by simpa using hname
   have hb:¬fn.body=none:=by intro h;simp[h] at hbody
   have harr:(args.toList.map a.eval).toArray=args.map a.eval:=by apply Array.ext';simp
   rw[harr]
   simp[execOp,hop,resolve,Deferred.ofValue,Act.eval,invoke,callFunc,hfn,hn,hb]
  unfold Oper.wp
  rw[hrun,Oper.upon_enter]
  refine hcalls.mono fun e w' he=>?_
  obtain ⟨us,rfl,hres,hnil,hbel⟩:=he
  have hg:=hrel.grow hbel
  have hlen:S.nv+1≤ρ.length:=by
   rcases hlen with h0|hlen
   ·cases h0
   ·exact hlen
  have hev:=eval_retVars (ρ:=ρ) [s] S.nv hlen
  rw[←hev] at hrets
  simp only[retVars,evalArgs,List.map_cons,List.map_nil,List.cons.injEq,Prod.mk.injEq,and_true] at hrets
  obtain ⟨rfl,rfl⟩:=hrets
  obtain ⟨r1,r2⟩:=nilled_sound (w':=w') (N':=NN N0 w0.own ρ S.blks hv) hres hnil
  exact ⟨hv,(hg.put o.dst pc (.dat s (nilled s (.var S.nv))) (s.mk us) (fun _=>⟨us,r1,rfl,r2⟩) (fun h=>absurd hp h)).nv _⟩
 ·simp at h
theorem intOf_eval (hrel:RelH P N0 w0 ρ S hv a w) (hp:presTrue ρ pc) {x:Operand} {k:IntKind} {e:E} (h:intOf? (S.ev P pc x 0)=some (k,e)):a.eval x= .int k (e.eval ρ).toInt:=by
 unfold intOf? at h
 split at h
 ·rename_i k' e' he
  simp at h
  obtain ⟨rfl,rfl⟩:=h
  have:=ev_sound hrel hp he
  rwa[RdX_int] at this
 ·simp at h
theorem allocX_sound (hrel:RelH P N0 w0 ρ S hv a w) (hp:presTrue ρ pc) {out:Out} {t:TypeId} (hop:o.op= .alloc t) (h:allocX P S.rb pc t o.dst=some out):
  o.wp P a w (fun a' w'=>∃hv',RelH P N0 w0 ρ {tmps:=putT S.tmps o.dst ⟨pc,out.x⟩,blks:=runCmds out.cmds S.blks,nv:=S.nv+out.nv} hv' a' w') Q:=by
 unfold allocX at h
 split at h
 ·rename_i s d hs hd
  split at h
  ·rename_i e hz
   split at h
   ·rename_i hok
    simp only[Bool.and_eq_true] at hok
    simp at h
    subst h
    obtain ⟨i,v,hi,hz1,hz2,hz3⟩:=zeroE_sound (w:=w) (N:=NN N0 w0.own ρ S.blks hv) (ρ:=ρ) hz
    obtain ⟨hv',g1,g2⟩:=new_box (P:=P) hrel hok.1.1 (s:=s) (t:=t) pc (flat_sound hz2 hz3)
    refine fin_step (w':=w.alloc (.cells v.cells.toList.toArray t)) ?_ g1 g2 hp
    simp[execOp,hop,Instr.alloc,zeroValue,typeInfo,hi,hz1,newVar,newRow]
   ·simp at h
  ·simp at h
 ·simp at h
theorem boxX_sound (hrel:RelH P N0 w0 ρ S hv a w) (hp:presTrue ρ pc) {out:Out} {t:TypeId} {x:Operand} (hop:o.op= .box t x) (h:boxX P S.rb pc t o.dst (S.ev P pc x t)=some out):
  o.wp P a w (fun a' w'=>∃hv',RelH P N0 w0 ρ {tmps:=putT S.tmps o.dst ⟨pc,out.x⟩,blks:=runCmds out.cmds S.blks,nv:=S.nv+out.nv} hv' a' w') Q:=by
 unfold boxX at h
 split at h
 ·rename_i s e d he hd
  split at h
  ·rename_i hok
   simp only[Bool.and_eq_true] at hok
   simp at h
   subst h
   obtain ⟨us,h1,h2,h3⟩:=ev_sound hrel hp he
   obtain ⟨hv',g1,g2⟩:=new_box (P:=P) hrel hok.1 (s:=s) (t:=t) pc (flat_sound h1 h3)
   refine fin_step (w':=w.alloc (.cells us.toArray t)) ?_ g1 g2 hp
   have hc:(a.eval x).cells=us.toArray:=by
    apply Array.ext'
    rw[h2,mk_cells h1.length fun u hu=>(Rd_one h1 u hu).2]
   simp[execOp,hop,Instr.box,newVar,newRow,hc]
  ·simp at h
 ·rename_i r n d he hd
  split at h
  ·rename_i s e hr
   split at h
   ·rename_i hok
    simp only[Bool.and_eq_true] at hok
    simp at h
    subst h
    have hx:=ev_sound hrel hp he
    obtain ⟨hv',g1,g2⟩:=new_box (P:=P) hrel hok.1 (s:= .sl s) (t:=t) (vs:=[a.eval x]) (cs:=[.full r n]) pc ⟨_,[],rfl,hx,rfl⟩
    refine fin_step (w':=w.alloc (.cells [a.eval x].toArray t)) ?_ g1 g2 hp
    obtain ⟨p,hin,hpp⟩:=rowOf_in hp hr
    obtain ⟨hv1,_⟩:=hx.2 _ _ p hin hpp
    obtain ⟨et,xs,hown,_,_⟩:=hrel.rows.row r _ _ p hin hpp
    have hc:(a.eval x).cells= #[a.eval x]:=by
     rw[hv1]
     rcases own_cells hown with ⟨h5,_,_⟩|⟨g,cap,h5,_⟩<;>rw[h5]<;>rfl
    simp[execOp,hop,Instr.box,newVar,newRow,hc]
   ·simp at h
  ·simp at h
 ·simp at h
theorem zero_madeCells {s:Sh} {v:Value} {c:C} {N:Nat→Prop} (hz:Rd w N s v.cells.toList c) (hs:0<s.size):∀n,RdRow w N s ((List.range (n*s.size)).map fun j=>v.cells[j%v.cells.size]!) (List.replicate n c)
 |0=>by simp[RdRow]
 |n+1=>by
  have hl:v.cells.size=s.size:=by have:=hz.length;simpa using this
  have ih:=zero_madeCells hz hs n
  rw[List.replicate_succ,Nat.add_mul,Nat.one_mul]
  refine ⟨v.cells.toList,(List.range (n*s.size)).map fun j=>v.cells[j%v.cells.size]!,?_,hz,ih⟩
  rw[Nat.add_comm,List.range_add,List.map_append,List.map_map]
  congr 1
  ·apply List.ext_getElem
   ·simp[hl]
   ·intro j h1 h2
    simp at h1 h2
    have:j%v.cells.size=j:=Nat.mod_eq_of_lt h2
    simp[this,h2]
  ·apply List.map_congr_left
   intro j _
   simp[hl,Nat.add_mod_left]
theorem makeX_sound (hrel:RelH P N0 w0 ρ S hv a w) (hp:presTrue ρ pc) {out:Out} {t:TypeId} {l c:Operand} (hop:o.op= .makeSlice t l c)
  (h:makeX P S.rb pc t o.dst (intOf? (S.ev P pc l 0)) (intOf? (S.ev P pc c 0))=some out) (ho:obsHold P ρ S.nv out.obs):
  o.wp P a w (fun a' w'=>∃hv',RelH P N0 w0 ρ {tmps:=putT S.tmps o.dst ⟨pc,out.x⟩,blks:=runCmds out.cmds S.blks,nv:=S.nv+out.nv} hv' a' w') Q:=by
 unfold makeX at h
 split at h
 ·rename_i et kl el kc ec d ht hl hc hd
  split at h
  ·simp at h
  ·rename_i s hs
   split at h
   ·rename_i z hz
    split at h
    ·rename_i hok
     simp only[Bool.and_eq_true] at hok
     obtain ⟨⟨⟨hnew,hfit⟩,hs0⟩,hb0⟩:=hok
     have hs0:0<s.size:=by simp at hs0;omega
     have hb0:0<P.bytesOf et:=by simp at hb0;omega
     simp at h
     subst h
     have el':=intOf_eval hrel hp hl
     have ec':=intOf_eval hrel hp hc
     obtain ⟨q1,q2⟩:=asrt_app hp ho
     obtain ⟨q3,q4⟩:=asrt_app hp q2
     have q5:=asrt_mem hp q4
     simp[E.eval,cmpI,rawArith] at q1 q3 q5
     obtain ⟨i,v,hi,hz1,hz2,hz3⟩:=zeroE_sound (w:=w) (N:=NN N0 w0.own ρ S.blks hv) (ρ:=ρ) hz
     have hsz:i.size=s.size:=by obtain ⟨i',_,hi',hs',_⟩:=fitsT_spec hfit;rw[hi] at hi';injection hi' with hi';rw[hi'];exact hs'
     have hby:P.bytesOf et=i.bytes:=by simp[Program.bytesOf,hi]
     obtain ⟨nl,hnl⟩:∃n:Nat,(el.eval ρ).toInt=(n:Int):=⟨(el.eval ρ).toInt.toNat,by omega⟩
     obtain ⟨nc,hnc⟩:∃n:Nat,(ec.eval ρ).toInt=(n:Int):=⟨(ec.eval ρ).toInt.toNat,by omega⟩
     have hlc:nl≤nc:=by omega
     have q5:=of_decide_eq_true q5
     rw[hnc,hby] at q5
     rw[hby] at hb0
     have hc48:nc≤281474976710656:=by
      have h1:i.bytes*nc≤281474976710656:=by
       have:((i.bytes*nc:Nat):Int)≤281474976710656:=by rw[Int.natCast_mul];exact q5
       omega
      exact Nat.le_trans (Nat.le_mul_of_pos_left _ hb0) h1
     have hmk:=run_make (P:=P) w t et i v (elemT_spec ht) hi hz1 kl kc nl nc (by omega) (by omega) q5 (by omega)
     simp only[Int.toNat_natCast,hsz] at hmk
     have hW:madeCells v.cells (nc*s.size)=((((List.range (nc*s.size)).map fun j=>v.cells[j%v.cells.size]!).take (nl*s.size))++(((List.range (nc*s.size)).map fun j=>v.cells[j%v.cells.size]!).drop (nl*s.size))).toArray:=by
      rw[List.take_append_drop]
      unfold madeCells
      apply Array.ext'
      simp[Array.toList_range]
     have hev:(((E.rep el z).eval ρ)).toList=List.replicate nl (z.eval ρ):=by simp[E.eval,hnl]
     have hrow:=(zero_madeCells hz2 hs0 nc).take nl
     rw[List.take_replicate,Nat.min_eq_left hlc,←hev] at hrow
     obtain ⟨hv',g1,g2⟩:=new_row hrel hnew (t:=et) pc (rest:=((List.range (nc*s.size)).map fun j=>v.cells[j%v.cells.size]!).drop (nl*s.size)) (cap:=nc) hrow hs0 (by rw[List.take_append_drop];simp)
      (by simp only[maxLen];omega) el (by rw[hev,hnl];simp)
     rw[←hW] at g1 g2
     rw[hev,List.length_replicate] at g2
     refine fin_step ?_ g1 g2 hp
     simp[execOp,hop,el',ec',hnl,hnc,hmk]
    ·simp at h
   ·simp at h
 ·simp at h
theorem rowLitX_sound (hrel:RelH P N0 w0 ρ S hv a w) (hp:presTrue ρ pc) {out:Out} {t:TypeId} {len:Nat} {parts:Array (Nat×Operand)} (hop:o.op= .buildSlice t len parts)
  (h:rowLitX P (S.ev P) S.rb pc t len o.dst parts.toList=some out):
  o.wp P a w (fun a' w'=>∃hv',RelH P N0 w0 ρ {tmps:=putT S.tmps o.dst ⟨pc,out.x⟩,blks:=runCmds out.cmds S.blks,nv:=S.nv+out.nv} hv' a' w') Q:=by
 unfold rowLitX at h
 split at h
 ·rename_i et d ht hd
  split at h
  ·simp at h
  ·rename_i s hs
   split at h
   ·rename_i hok
    simp only[Bool.and_eq_true,decide_eq_true_eq] at hok
    obtain ⟨⟨⟨⟨⟨hnew,hfit⟩,hs0⟩,hpl⟩,hlen⟩,hz⟩:=hok
    have hs0:0<s.size:=by simp at hs0;omega
    split at h
    ·rename_i e hb
     simp at h
     subst h
     obtain ⟨r1,r2,xs,r3,r4⟩:=elemsX_sound hrel.rows hp (fun o t x=>ev_sound hrel hp) hb
     have r3:RdRow w (NN N0 w0.own ρ S.blks hv) s xs (e.eval ρ).toList:=r3.mono (Nat.le_refl _) fun b hb _=>⟨rfl,(NF_nil _ _ _).1 hb⟩
     rw[hpl] at r2
     have hl:xs.length=len*s.size:=by rw[r3.length,r2]
     have hrun:=buildSlice_run (P:=P) (w:=w) (parts:=parts.toList.map fun x=>(x.1,a.eval x.2)) (elemT_spec ht) hfit hz hlen hl fun vs hvs=>by
      have:=r4 vs (by rw[hpl];omega)
      rw[hpl] at this
      simpa using this
     obtain ⟨hv',g1,g2⟩:=new_row hrel hnew (t:=et) pc (rest:=[]) (cap:=len) r3 hs0 (by simpa using hl) (by simp only[maxLen];have:len≤len*s.size:=Nat.le_mul_of_pos_right _ hs0;omega) (.int len) (by simp[E.eval,r2])
     rw[r2] at g2
     simp only[List.append_nil] at g1 g2
     refine fin_step ?_ g1 g2 hp
     have harr:(parts.map fun x=>(x.1,a.eval x.2))=(parts.toList.map fun x=>(x.1,a.eval x.2)).toArray:=by apply Array.ext';simp
     simp only[execOp,hop]
     have harr2:(parts.map fun (i,x)=>(i,a.eval x))=(parts.toList.map fun x=>(x.1,a.eval x.2)).toArray:=harr
     rw[harr2]
     simp[hrun]
    ·simp at h
   ·simp at h
 ·simp at h
theorem methFn_spec {P:Program} {t:TypeId} {name:String} {f:FuncId} (h:methFn P t name=some f):
  ∃i d m,P.info? t=some i∧P.underlying t=some d∧i.methods.find? (fun m=>m.name==name)=some m∧m.path.toList=[]∧m.func=some (f,false)∧∀e,d≠ .pointer e:=by
 unfold methFn at h
 split at h
 ·rename_i i d hi hd
  split at h
  ·rename_i m hm
   split at h
   ·rename_i f' hf
    split at h
    ·simp at h
    ·rename_i hnp
     simp at h
     obtain ⟨h1,rfl⟩:=h
     exact ⟨i,d,m,hi,hd,hm,by rw[h1],hf,fun e he=>hnp e he⟩
   ·simp at h
  ·simp at h
 ·simp at h
theorem run_typeInfo {P:Program} {w:World} {t:TypeId} {i:TypeInfo} (h:P.info? t=some i):(typeInfo t).run P w= .ok i w:=by simp[typeInfo,h]
theorem run_nilAhead {P:Program} {w:World} {t:TypeId} {name:String} {f:FuncId} (h:methFn P t name=some f) (n:Nat) (v:Value):(nilAhead (n+1) t v name).run P w= .ok (some false) w:=by
 obtain ⟨i,d,m,hi,hd,hm,hp,hf,hnp⟩:=methFn_spec h
 unfold nilAhead
 simp only[Sem.run_bind,run_typeInfo hi,Result.andThen_ok,hm,hp,followBlind,Sem.run_pure,hf,run_underlying hd]
 cases d<;>first|rfl|(exact absurd rfl (hnp _))
theorem run_method {P:Program} {w:World} {t:TypeId} {name:String} {f:FuncId} (h:methFn P t name=some f) (n:Nat) (v:Value):(method (n+1) t v name).run P w= .ok (f,v) w:=by
 obtain ⟨i,d,m,hi,hd,hm,hp,hf,hnp⟩:=methFn_spec h
 unfold method
 simp only[Sem.run_bind,run_typeInfo hi,Result.andThen_ok,hm,hp,follow,Sem.run_pure,hf,receiverAt,run_underlying hd]
 cases d<;>first|(simp[Place.get];done)|(exact absurd rfl (hnp _))
theorem Exact_dull (s:Sh) (e:E) (vs:List Value):Exact s (dull e) vs:=Exact_leaf (by simp[dull]) (by simp[dull]) vs
theorem eval_dull (ρ:List C) (e:E):(dull e).eval ρ=e.eval ρ:=by simp[dull,E.eval]
theorem RdX_ifc {w:World} {N:Nat→Prop} {ρ:List C} {bs:List Blk} {hv:Nat→Value} {t:TypeId} {s:Sh} {e:E} {v:Value} (h:RdX w N ρ bs hv (.dat (.ifc t s) e) v):
  ∃us,v= .iface t (s.mk us)∧Rd w N s us (e.eval ρ):=by
 obtain ⟨vs,⟨us,h1,h2⟩,h3,_⟩:=h
 subst h1
 exact ⟨us,by simpa [Sh.mk,Sh.isAgg] using h3,h2⟩
theorem RdX_nili {w:World} {N:Nat→Prop} {ρ:List C} {bs:List Blk} {hv:Nat→Value} {e:E} {v:Value} (h:RdX w N ρ bs hv (.dat .nili e) v):v= .nilIface:=by
 obtain ⟨vs,h1,h3,_⟩:=h
 simp only[Rd] at h1
 subst h1
 simpa [Sh.mk,Sh.isAgg] using h3
theorem RdX_ifc_of {w:World} {N:Nat→Prop} {ρ:List C} {bs:List Blk} {hv:Nat→Value} {t:TypeId} {s:Sh} {e:E} {us:List Value} (h:Rd w N s us (e.eval ρ)):RdX w N ρ bs hv (.dat (.ifc t s) e) (.iface t (s.mk us)):=
 ⟨[.iface t (s.mk us)],⟨us,rfl,h⟩,by simp[Sh.mk,Sh.isAgg],by cases e<;>trivial⟩
theorem equalIn_ifn {P:Program} {w:World} (d:Nat) {xt:TypeId} {l:Array (String×TypeId)} (hu:P.underlying xt=some (.interface l)) (t:TypeId) (v:Value):(Op.equalIn (d+1) xt (.iface t v) .nilIface).run P w= .ok false w:=by
 simp[Op.equalIn,run_underlying hu]
theorem equalIn_nn {P:Program} {w:World} (d:Nat) {xt:TypeId} {l:Array (String×TypeId)} (hu:P.underlying xt=some (.interface l)):(Op.equalIn (d+1) xt .nilIface .nilIface).run P w= .ok true w:=by
 simp[Op.equalIn,run_underlying hu]
theorem equal_ifn {P:Program} {w:World} {xt:TypeId} {l:Array (String×TypeId)} (hu:P.underlying xt=some (.interface l)) {t:TypeId} {v:Value}:(Op.equal xt (.iface t v) .nilIface).run P w= .ok false w:=by
 unfold Op.equal;exact equalIn_ifn 9999 hu t v
theorem equal_nn {P:Program} {w:World} {xt:TypeId} {l:Array (String×TypeId)} (hu:P.underlying xt=some (.interface l)):(Op.equal xt .nilIface .nilIface).run P w= .ok true w:=by
 unfold Op.equal;exact equalIn_nn 9999 hu
theorem callV_sound (hrel:RelH P N0 w0 ρ S hv a w) (hp:presTrue ρ pc) {out:Out} {f:Nat} {pre:List (Sh×E)} {us:List Value} {args:List Operand} {ts:List TypeId}
  (h:callV P cfg (S.ev P) S.rb pc S.nv o.type f pre args ts=some out) (hpre:∀ {l:List (Sh×E)} {vs:List Value} {N:Nat→Prop},(∀b,NN N0 w0.own ρ S.blks hv b→N b)→RdVs w N (evalArgs ρ l) vs→RdVs w N (evalArgs ρ (pre++l)) (us++vs))
  (hexec:Callable P f→(execOp a.eval o).run P w= .ok (.enter f (us++args.map a.eval).toArray) w) (ho:obsHold P ρ S.nv out.obs):
  o.wp P a w (fun a' w'=>∃hv',RelH P N0 w0 ρ {tmps:=putT S.tmps o.dst ⟨pc,out.x⟩,blks:=runCmds out.cmds S.blks,nv:=S.nv+out.nv} hv' a' w') Q:=by
 unfold callV at h
 split at h
 ·rename_i l frz rets ha hr
  split at h
  ·rename_i hlt
   injection h with h
   subst h
   obtain ⟨h1,h2⟩:=argsX_sound hrel.rows hp (fun o t x=>ev_sound hrel hp) ha
   exact call_go hrel hp hlt h1 (hpre (fun b hb=> .inl hb) h2) hexec ho
  ·simp at h
 ·simp at h
theorem exec_invoke {x:Operand} {name:String} {args:Array Operand} {ts:Array TypeId} (hop:o.op= .call {callee:= .invoke x name,args:=args,argTypes:=ts}) {t:TypeId} {v:Value} (hx:a.eval x= .iface t v) {f:FuncId} (hm:methFn P t name=some f) (hc:Callable P f):
  (execOp a.eval o).run P w= .ok (.enter f ([v]++args.toList.map a.eval).toArray) w:=by
 obtain ⟨fn,hfn,hbody,hname⟩:=hc
 have hn:¬fn.name= "runtime.NumGoroutine" :=by simpa using hname
 have hb:¬fn.body=none:=by intro h;simp[h] at hbody
 obtain ⟨n,hd⟩:∃n,P.types.size+Made.depth=n+1:=⟨P.types.size+99,rfl⟩
 have harr:([v]++args.toList.map a.eval).toArray= #[v]++args.map a.eval:=by apply Array.ext';simp
 rw[harr]
 have hext:(#[Value.iface t v]++args.map a.eval).extract 1 (#[Value.iface t v]++args.map a.eval).size=args.map a.eval:=by
  apply Array.ext'
  simp
  rw[List.take_of_length_le (by simp)]
 have h0:(#[Value.iface t v]++args.map a.eval)[0]?=some (.iface t v):=by rw[Array.getElem?_append_left (by simp)];rfl
 have hres:(resolve a.eval {callee:= .invoke x name,args:=args,argTypes:=ts} o.type).run P w= .ok {target:= .fn (.method name) #[],args:= #[.iface t v]++args.map a.eval} w:=by simp[resolve,hx]
 have hcm:(callMethod (.iface t v) name (args.map a.eval)).run P w= .ok (.enter f (#[v]++args.map a.eval)) w:=by
  simp[callMethod,hd,run_method hm,callFunc,hfn,hn,hb]
 simp only[execOp,hop]
 rw[Sem.run_bind,hres]
 simp only[Result.andThen_ok,invoke,h0,hext]
 exact hcm
theorem zeroL_sound {t:TypeId} {s:Sh} {e:E} {N:Nat→Prop} (h:zeroL P t s=some e):∃z,(zeroValue t).run P w= .ok z w∧Rd w N s [z] (e.eval ρ):=by
 unfold zeroL at h
 split at h
 ·rename_i v hv
  obtain ⟨i,hi,hz⟩:=Option.bind_eq_some_iff.1 hv
  split at h
  ·rename_i e' hu
   injection h with h
   subst h
   obtain ⟨us,h1,h2,_⟩:=unflatC_sound (w:=w) (N:=N) (ρ:=ρ) hu
   simp at h1
   subst h1
   exact ⟨v,by simp[zeroValue,typeInfo,hi,hz],h2⟩
  ·simp at h
 ·simp at h
theorem mapT_spec {t:TypeId} {kk:IntKind} {et:TypeId} (h:mapT P t=some (kk,et)):∃k,P.underlying t=some (.map k et)∧P.underlying k=some (.int kk):=by
 unfold mapT at h
 split at h
 ·rename_i k e hu
  split at h
  ·rename_i k' hk
   simp at h
   obtain ⟨rfl,rfl⟩:=h
   exact ⟨k,hu,hk⟩
  ·simp at h
 ·simp at h
theorem mapRd_sound (hrel:RelH P N0 w0 ρ S hv a w) (hp:presTrue ρ pc) {x:Operand} {t:TypeId} {k:IntKind} {s:Sh} {e:E} (h:mapRd S.rb pc (S.ev P pc x t)=some (k,s,e)):
  ∃g l,a.eval x= .map (some g)∧MapIs w g k l∧MapRd (fun v d=>Rd w (NN N0 w0.own ρ S.blks hv) s [v] d) l (e.eval ρ).toList:=by
 unfold mapRd at h
 split at h
 ·rename_i he
  simp at h
  obtain ⟨rfl,rfl,rfl⟩:=h
  obtain ⟨vs,⟨g,l,h1,h2,h3,h4,h5⟩,h6,_⟩:=ev_sound hrel hp he
  subst h1
  exact ⟨g,l,by simpa [Sh.mk,Sh.isAgg] using h6,h4,h5⟩
 ·rename_i r he
  obtain ⟨p,h1,h2⟩:=mapOf_in hp h
  obtain ⟨g,l,h3,h4,h5,h6⟩:=hrel.rows.map r _ _ _ p h1 h2
  obtain ⟨hkn,hx⟩:=ev_sound hrel hp he
  exact ⟨g,l,by rw[hx,h3],h5,h6⟩
 ·simp at h
theorem mk_leaf {s:Sh} (h:s.isAgg=false) (v:Value):s.mk [v]=v:=by simp[Sh.mk,h]
theorem opy_sound {out:Out} (hrel:RelH P N0 w0 ρ S hv a w) (hp:presTrue ρ pc) (h:opy P cfg o pc (S.ev P) S.rb S.nv=some out) (ho:obsHold P ρ S.nv out.obs):
  o.wp P a w (fun a' w'=>∃hv',RelH P N0 w0 ρ {tmps:=putT S.tmps o.dst ⟨pc,out.x⟩,blks:=runCmds out.cmds S.blks,nv:=S.nv+out.nv} hv' a' w') Q:=by
 unfold opy at h
 split at h
 ·rename_i x name args ts hop
  split at h
  ·rename_i t s e he
   split at h
   ·rename_i f hm
    obtain ⟨us,h1,h2⟩:=RdX_ifc (ev_sound hrel hp he)
    refine callV_sound hrel hp (us:=[s.mk us]) h (fun hN hl=>⟨_,_,rfl,⟨us,h2.mono (Nat.le_refl _) fun b hb _=>⟨rfl,hN b hb⟩,rfl⟩,hl⟩) (exec_invoke hop h1 hm) ho
   ·simp at h
  ·simp at h
 ·simp at h
 ·rename_i x args ts _ hop
  split at h
  ·rename_i f e he
   obtain ⟨vs,h1,h2,_⟩:=ev_sound hrel hp he
   simp only[Rd] at h1
   subst h1
   exact callV_sound hrel hp (us:=[]) h (fun _ hl=>hl) (exec_value hop (by simpa [Sh.mk,Sh.isAgg] using h2)) ho
  ·simp at h
 ·rename_i t m x ok hop
  split at h
  ·rename_i kk et k' ek kk' s e ht hk hm
   split at h
   ·rename_i hok
    simp only[Bool.and_eq_true,decide_eq_true_eq,Bool.not_eq_true'] at hok
    obtain ⟨⟨rfl,rfl⟩,hag⟩:=hok
    split at h
    ·rename_i z hz
     obtain ⟨g,l,h1,h2,h3⟩:=mapRd_sound hrel hp hm
     obtain ⟨z',hz1,hz2⟩:=zeroL_sound (w:=w) (ρ:=ρ) (N:=NN N0 w0.own ρ S.blks hv) hz
     obtain ⟨kt,hu1,hu2⟩:=mapT_spec ht
     have hkv:=intOf_eval hrel hp hk
     have hrun:=h2.look_run hu1 hu2 hz1 (ek.eval ρ).toInt ok
     have hval:Rd w (NN N0 w0.own ρ S.blks hv) s [(look l (ek.eval ρ).toInt).getD z'] ((E.mget e ek z).eval ρ)∧(look l (ek.eval ρ).toInt).isSome=((E.mhas e ek).eval ρ).toBool:=by
      rcases h3.find (ek.eval ρ).toInt with ⟨f1,f2⟩|⟨v,d,f1,f2,f3⟩
      ·simp only[E.eval,f1,f2]
       exact ⟨hz2,rfl⟩
      ·simp only[E.eval,f1,f2]
       exact ⟨f3,rfl⟩
     have hrd:RdV w (NN N0 w0.own ρ S.blks hv) s ((look l (ek.eval ρ).toInt).getD z') ((dull (.mget e ek z)).eval ρ):=⟨[_],by rw[eval_dull];exact hval.1,(mk_leaf hag _).symm⟩
     cases ok with
     |true=>
      simp only[if_true,Option.some.injEq] at h hrun
      subst h
      refine fin_step (v:= .tuple #[(look l (ek.eval ρ).toInt).getD z',.bool (look l (ek.eval ρ).toInt).isSome]) (bs':=S.blks) (w':=w) ?_ hrel ?_ hp
      ·simp only[execOp,hop,h1,hkv]
       rw[Sem.run_bind,hrun]
       rfl
      ·refine ⟨⟨[_,_],rfl,⟨_,_,rfl,hrd,_,_,rfl,⟨[.bool (look l (ek.eval ρ).toInt).isSome],?_,by simp[Sh.mk,Sh.isAgg]⟩,rfl⟩⟩,?_⟩
       ·rw[hval.2];rfl
       ·intro x hx vs
        simp only[List.mem_cons,List.not_mem_nil,or_false] at hx
        rcases hx with rfl|rfl
        ·exact Exact_dull _ _ _
        ·trivial
     |false=>
      simp only[Bool.false_eq_true,if_false,Option.some.injEq] at h hrun
      subst h
      refine fin_step (bs':=S.blks) (w':=w) ?_ hrel (RdX_of hrd (Exact_dull _ _)) hp
      simp only[execOp,hop,h1,hkv]
      rw[Sem.run_bind,hrun]
      rfl
    ·simp at h
   ·simp at h
  ·simp at h
 ·rename_i t hop
  split at h
  ·rename_i kk et d ht hd
   split at h
   ·rename_i s hs
    split at h
    ·rename_i hok
     simp only[Bool.and_eq_true] at hok
     injection h with h
     subst h
     obtain ⟨k0,hk0,hkn⟩:=isNew_blk hok.1
     have hdl:d<S.blks.length:=(List.getElem?_eq_some_iff.1 hk0).1
     obtain ⟨g1,g2⟩:=hrel.new (w':=w.alloc (.map #[] 0)) ⟨k0,hk0,hkn⟩ (.mp kk s .nil) pc (.map (some w.heap.size)) ((Below.refl _ w).alloc (Nat.le_refl _) _) (fun g hg=>by injection hg with hg;omega)
      (fun _=>⟨w.heap.size,[],by simp[upd],.inl hrel.below.size,MapIs.new w kk,by simp[E.eval,MapRd]⟩)
     refine fin_step ?_ g1 ⟨⟨_,List.getElem?_set_self hdl,by simp⟩,by simp[upd];rfl⟩ hp
     simp only[execOp,hop,Option.map_none]
     rw[Sem.run_bind,run_makeMap]
     rfl
    ·simp at h
   ·simp at h
  ·simp at h
 ·rename_i t x hop
  split at h
  ·rename_i e d ht he hd
   split at h
   ·rename_i hok
    injection h with h
    subst h
    obtain ⟨k0,hk0,hkn⟩:=isNew_blk hok
    have hdl:d<S.blks.length:=(List.getElem?_eq_some_iff.1 hk0).1
    have hx:=ev_sound hrel hp he
    rw[RdX_str] at hx
    obtain ⟨g1,g2⟩:=hrel.new (w':=w.alloc (.stringIter ⟨(e.eval ρ).toStr.toArray⟩ 0)) ⟨k0,hk0,hkn⟩ (.sit e (.int 0)) pc (.pointer (some ⟨w.heap.size,0,none⟩)) ((Below.refl _ w).alloc (Nat.le_refl _) _) (fun g hg=>by injection hg with hg;simp at hg;omega)
     (fun _=>⟨w.heap.size,0,by simp[upd],.inl hrel.below.size,rfl,heap_alloc_new w _⟩)
    refine fin_step ?_ g1 ⟨⟨_,List.getElem?_set_self hdl,by simp⟩,by simp[upd];rfl⟩ hp
    simp only[execOp,hop,hx]
    simp[Instr.range,run_underlying ht]
   ·simp at h
  ·simp at h
 ·simp at h
theorem opx0_sound {out:Out} (hrel:RelH P N0 w0 ρ S hv a w) (hp:presTrue ρ pc) (h:opx0 P cfg o pc (S.ev P) S.rb S.nv=some out) (ho:obsHold P ρ S.nv out.obs):
  o.wp P a w (fun a' w'=>∃hv',RelH P N0 w0 ρ {tmps:=putT S.tmps o.dst ⟨pc,out.x⟩,blks:=runCmds out.cmds S.blks,nv:=S.nv+out.nv} hv' a' w') Q:=by
 unfold opx0 at h
 split at h
 case h_1 x hop=>
  split at h
  ·rename_i y hy
   simp at h
   subst h
   exact fin_plain hrel hp rfl (m:=pure (a.eval x)) (fun v hv=>by simp at hv;subst hv;simp[execOp,hop]) ⟨_,by simp,ev_sound hrel hp hy⟩
  ·simp at h
 case h_2 x hop=>
  split at h
  ·rename_i y hy
   simp at h
   subst h
   exact fin_plain hrel hp rfl (m:=pure (a.eval x)) (fun v hv=>by simp at hv;subst hv;simp[execOp,hop]) ⟨_,by simp,ev_sound hrel hp hy⟩
  ·simp at h
 case h_3 c x y hop=>
  obtain ⟨h1,h2,h3,h4⟩:=pickX_sound (P:=P) (vc:=a.eval c) (va:=a.eval x) (vb:=a.eval y) h (fun z hz=>ev_sound hrel hp hz)
   (fun e z hc hb hz=>ev_sound hrel (presTrue_app.2 ⟨hp,presTrue_one.2 hb⟩) hz) (fun e z hc hb hz=>ev_sound hrel (presTrue_app.2 ⟨hp,presTrue_one.2 hb⟩) hz)
  refine fin_plain hrel hp h1 (fun v hv=>?_) h4
  simp only[execOp,hop]
  simp at hv ⊢
  cases hb:(asBool (a.eval c)).run P w with
  |ok b w'=>simp[hb] at hv ⊢;obtain ⟨rfl,rfl⟩:=hv;simp
  |halt hh w'=>simp[hb] at hv
 case h_4 op xt x y yt hop=>
  split at h
  ·rename_i s ex s' ey hx hy
   by_cases hag:s.isAgg=false
   ·obtain ⟨h1,h2,h3⟩:=binX_sound (P:=P) (ox:=x) (oy:=y) h hag hp ho (ev_sound hrel hp hx) (ev_sound hrel hp hy)
    refine fin_plain hrel hp h1 (fun v hv=>?_) h3
    simp only[execOp,hop]
    rw[Sem.run_bind,hv]
    simp
   ·obtain ⟨h1,h2,h3⟩:=binX_agg (P:=P) (ox:=x) (oy:=y) h (by simpa using hag) (ev_sound hrel hp hx) (ev_sound hrel hp hy)
    refine fin_plain hrel hp h1 (fun v hv=>?_) h3
    simp only[execOp,hop]
    rw[Sem.run_bind,hv]
    simp
  ·simp at h
 case h_5 op t x hop=>
  obtain ⟨h1,h2,h3,h4⟩:=unX_sound (P:=P) (v:=a.eval x) h (fun z hz=>ev_sound hrel hp hz)
  refine fin_plain hrel hp h1 (fun v hv=>?_) h4
  simp only[execOp,hop]
  rw[Sem.run_bind,hv]
  simp
 case h_6 src dst x hop=>
  obtain ⟨h1,h2,h3⟩:=convX_sound (P:=P) hrel.rows hp (v:=a.eval x) h (fun z hz=>ev_sound hrel hp hz) ho (fun b hb=>hrel.newN hb)
  refine fin_grun hrel hp h1 (fun v w' hv=>?_) h3
  simp only[execOp,hop]
  rw[Sem.run_bind,hv]
  simp
 case h_7 t i hop=>
  split at h
  ·rename_i l hl
   split at h
   ·rename_i s e hi
    simp at h
    subst h
    obtain ⟨⟨vs,h1,h2⟩,hex⟩:=ev_sound hrel hp hl
    obtain ⟨v,h3,h4⟩:=RdVs_at h2 hi
    refine fin_plain hrel hp rfl (m:=Instr.extract (a.eval t) i) (fun v hv=>?_) ⟨v,by rw[h1];simp[Instr.extract,h3],RdX_of h4 (hex (s,e) (List.mem_of_getElem? hi))⟩
    simp only[execOp,hop]
    rw[Sem.run_bind,hv]
    simp
   ·simp at h
  ·rename_i r n l hl
   obtain ⟨hkn,v1,vr,h1,h2,h3,hex⟩:=ev_sound hrel hp hl
   split at h
   ·simp at h
    subst h
    refine fin_plain hrel hp rfl (m:=Instr.extract (a.eval t) 0) (fun v hv=>?_) ⟨v1,by rw[h1];simp[Instr.extract],hkn,h2⟩
    simp only[execOp,hop]
    rw[Sem.run_bind,hv]
    simp
   ·rename_i i
    split at h
    ·rename_i s e hi
     simp at h
     subst h
     obtain ⟨v,h4,h5⟩:=RdVs_at h3 hi
     refine fin_plain hrel hp rfl (m:=Instr.extract (a.eval t) (i+1)) (fun v hv=>?_) ⟨v,by rw[h1];simp[Instr.extract,h4],RdX_of h5 (hex (s,e) (List.mem_of_getElem? hi))⟩
     simp only[execOp,hop]
     rw[Sem.run_bind,hv]
     simp
    ·simp at h
  ·simp at h
 case h_8 t x j hop=>
  obtain ⟨h1,h2,h3,h4⟩:=fieldX_sound (P:=P) (v:=a.eval x) h (fun z hz=>ev_sound hrel hp hz)
  refine fin_plain hrel hp h1 (fun v hv=>?_) h4
  simp only[execOp,hop]
  rw[Sem.run_bind,hv]
  simp
 case h_9 t parts hop=>
  obtain ⟨f,h1,h2,h3,h4,u,h5,h6⟩:=buildSX_sound (P:=P) hrel.rows hp (fun o t x=>ev_sound hrel hp) h
  refine fin_frz hrel hp h1 h2 (w':=w) (u:=u) ?_ (Below.refl _ _) h6
  have harr:(parts.map fun (i,x)=>(i,a.eval x))=parts.toList.toArray.map fun x=>(x.1,a.eval x.2):=by apply Array.ext';simp
  simp only[execOp,hop,harr]
  rw[Sem.run_bind,h5]
  simp
 case h_10 t len parts hop=>
  split at h
  ·exact rowLitX_sound hrel hp hop h
  ·obtain ⟨f,h1,h2,h3,h4,u,w',h5,h6,h7⟩:=buildSlX_sound (P:=P) hrel.rows hp (fun o t x=>ev_sound hrel hp) h (fun b hb=>hrel.newN hb)
   refine fin_frz hrel hp h1 h2 (u:=u) ?_ h6 h7
   have harr:(parts.map fun (i,x)=>(i,a.eval x))=parts.toList.toArray.map fun x=>(x.1,a.eval x.2):=by apply Array.ext';simp
   simp only[execOp,hop,harr]
   rw[Sem.run_bind,h5]
   simp
 case h_11 t hop=>exact allocX_sound hrel hp hop h
 case h_12 t x hop=>exact boxX_sound hrel hp hop h
 case h_13 t x hop=>
  obtain ⟨f,h1,h2,h3,h4,u,h5,h6⟩:=loadX_sound (P:=P) hrel.rows hrel.boxes hp (v:=a.eval x) h (fun z hz=>ev_sound hrel hp hz)
  refine fin_frz hrel hp h1 h2 (w':=w) (u:=u) ?_ (Below.refl _ _) h6
  simp only[execOp,hop]
  rw[Sem.run_bind,h5]
  simp
 case h_14 x hop=>
  obtain ⟨h1,h2,h3,h4,h5⟩:=nilX_sound hrel.rows hp (v:=a.eval x) h (fun z hz=>ev_sound hrel hp hz)
  refine fin_plain hrel hp h1 (m:=pure (a.eval x)) (fun v hv=>?_) ⟨_,by simp,h4⟩
  simp at hv
  subst hv
  rcases h5 with ⟨ad,h5⟩|⟨f,h5⟩<;>simp[execOp,hop,h5]
 case h_15 st x j hop=>
  obtain ⟨h1,h2,h3,h4⟩:=faddrX_sound (P:=P) (v:=a.eval x) hp h (fun z hz=>ev_sound hrel hp hz)
  refine fin_plain hrel hp h1 (fun v hv=>?_) h4
  simp only[execOp,hop]
  rw[Sem.run_bind,hv]
  simp
 case h_16 t x i hop=>
  obtain ⟨h1,h2,h3⟩:=iaddrX_sound (P:=P) (ki:= .i64) hrel.rows hp (v:=a.eval x) (vi:=a.eval i) h (fun z hz=>ev_sound hrel hp hz) (fun k e hi=>intOf_eval hrel hp hi) ho
  refine fin_plain hrel hp h1 (fun v hv=>?_) h3
  simp only[execOp,hop]
  rw[Sem.run_bind,hv]
  simp
 case h_17 t x i hop=>
  obtain ⟨h1,h2,h3⟩:=indexX_sound (P:=P) hp (v:=a.eval x) (vi:=a.eval i) h (fun z hz=>ev_sound hrel hp hz) (fun k e hi=>intOf_eval hrel hp hi) ho
  refine fin_plain hrel hp h1 (fun v hv=>?_) h3
  simp only[execOp,hop]
  rw[Sem.run_bind,hv]
  simp
 case h_18 t x lo hi hop=>
  obtain ⟨h1,h2,h3⟩:=sliceX_sound (P:=P) hrel.rows hp (a:=a) (fun o k e he=>by have:=ev_sound hrel hp he;rwa[RdX_int] at this) (v:=a.eval x) h (fun z hz=>ev_sound hrel hp hz) ho
  refine fin_plain hrel hp h1 (fun v hv=>?_) h3
  simp only[execOp,hop]
  rw[Sem.run_bind]
  have hv':(Instr.sliceAt t (a.eval x) (lo.map a.eval) (hi.map a.eval) (Option.map a.eval none)).run P w= .ok v w:=hv
  rw[hv']
  simp
 case h_19 t l c hop=>exact makeX_sound hrel hp hop h ho
 case h_20 b args ts hop=>
  have hexec:∀(m:Sem Value),(∀consts,builtin b ts o.type consts (args.map a.eval)=(do pure (.value (←m))))→∀v,m.run P w= .ok v w→(execOp a.eval o).run P w= .ok (.value v) w:=by
   intro m hm v hv
   simp only[execOp,hop,resolve,invoke]
   simp only[Sem.run_bind,Sem.run_pure,Result.andThen_ok,hm,hv]
  unfold builtinX at h
  split at h
  ·rename_i x t hargs hts
   obtain ⟨al⟩:=args
   obtain ⟨tl⟩:=ts
   simp only at hargs hts
   subst hargs hts
   obtain ⟨h1,h2,h3,h4⟩:=lenX_sound (P:=P) (ty:=o.type) hrel.rows hp (v:=a.eval x) h (fun z hz=>ev_sound hrel hp hz)
   exact fin_plain hrel hp h1 (hexec _ (fun _=>by simp[builtin])) h4
  ·rename_i x y hargs
   obtain ⟨al⟩:=args
   simp only at hargs
   subst hargs
   obtain ⟨h1,h2,h3,h4⟩:=mmX_min (P:=P) (ts:=ts) (ty:=o.type) (v:=a.eval x) (u:=a.eval y) h (fun z hz=>ev_sound hrel hp hz) (fun z hz=>ev_sound hrel hp hz)
   exact fin_plain hrel hp h1 (hexec _ (fun _=>by simp[builtin])) h4
  ·rename_i x y hargs
   obtain ⟨al⟩:=args
   simp only at hargs
   subst hargs
   obtain ⟨h1,h2,h3,h4⟩:=mmX_max (P:=P) (ts:=ts) (ty:=o.type) (v:=a.eval x) (u:=a.eval y) h (fun z hz=>ev_sound hrel hp hz) (fun z hz=>ev_sound hrel hp hz)
   exact fin_plain hrel hp h1 (hexec _ (fun _=>by simp[builtin])) h4
  ·simp at h
 case h_21 f args ts hop=>
  split at h
  ·simp at h
  ·split at h
   ·exact callN_sound hrel hp hop h ho
   ·exact callX_sound hrel hp hop h ho
 case h_22=>exact opy_sound hrel hp h ho
theorem least_none {l:List String} (h:Instr.least l=none):l=[]:=by
 cases l with
 |nil=>rfl
 |cons s r=>simp[Instr.least] at h
theorem missing_iff (want:Array (String×TypeId)) (got:Array Method):Instr.missingMethod want got=none↔((want.toList.filter fun x=> !got.any fun m=>m.name==x.1&&m.sig==x.2).map (·.1))=[]:=by
 unfold Instr.missingMethod
 generalize ((want.toList.filter fun x=> !got.any fun m=>m.name==x.1&&m.sig==x.2).map (·.1))=l
 constructor
 ·intro h
  simp only[List.partition_eq_filter_filter] at h
  cases h1:Instr.least (l.filter (not∘fun x=>x.contains (Char.ofNat 46))) with
  |some m=>rw[h1] at h;simp at h
  |none=>
   rw[h1] at h
   have h2:Instr.least ((l.filter fun x=>x.contains (Char.ofNat 46)).map fun id=>(id.splitOn ".").getLastD id)=none:=by simpa using h
   have e1:=least_none h1
   have e2:=least_none h2
   rw[List.map_eq_nil_iff] at e2
   cases l with
   |nil=>rfl
   |cons s r=>
    exfalso
    have hs:s∈s::r:=List.mem_cons_self
    rw[List.filter_eq_nil_iff] at e1 e2
    have a1:=e1 s hs
    have a2:=e2 s hs
    simp only[Function.comp] at a1
    cases hb:s.contains (Char.ofNat 46)<;>simp_all
 ·intro h
  subst h
  rfl
theorem preX_sound {out:Out} (hrel:RelH P N0 w0 ρ S hv a w) (hp:presTrue ρ pc) (h:preX P o pc (S.ev P)=some out) (ho:obsHold P ρ S.nv out.obs):
  out.cmds=[]∧out.nv=0∧∃v,(execOp a.eval o).run P w= .ok (.value v) w∧RdX w (NN N0 w0.own ρ S.blks hv) ρ S.blks hv out.x v:=by
 unfold preX at h
 split at h
 ·rename_i t x hop
  split at h
  ·rename_i s e d he hu
   split at h
   ·simp at h
   ·rename_i hni
    injection h with h
    subst h
    obtain ⟨us,h1,h2,_⟩:=ev_sound hrel hp he
    refine ⟨rfl,rfl,.iface t (a.eval x),?_,by rw[h2];exact RdX_ifc_of h1⟩
    have hm:(Instr.makeInterface t (a.eval x)).run P w= .ok (.iface t (a.eval x)) w:=by
     unfold Instr.makeInterface
     simp only[Sem.run_bind,run_underlying hu,Result.andThen_ok]
     cases d<;>first|rfl|simp at hni
    simp only[execOp,hop]
    rw[Sem.run_bind,hm]
    rfl
  ·simp at h
 ·rename_i name first captured hop
  split at h
  ·rename_i x hf hc
   split at h
   ·rename_i t s e he
    injection h with h
    subst h
    obtain ⟨us,h1,h2⟩:=RdX_ifc (ev_sound hrel hp he)
    obtain ⟨fl⟩:=first
    obtain ⟨cl⟩:=captured
    simp only at hf hc
    subst hf hc
    exact ⟨rfl,rfl,_,by simp[execOp,hop,Instr.makeFunc,h1];rfl,us,by simp⟩
   ·simp at h
  ·simp at h
 ·rename_i x hop
  split at h
  ·rename_i t s name he
   split at h
   ·rename_i hm
    injection h with h
    subst h
    obtain ⟨us,h1⟩:=ev_sound hrel hp he
    obtain ⟨f,hf⟩:=Option.isSome_iff_exists.1 hm
    refine ⟨rfl,rfl,a.eval x,?_,us,h1⟩
    have hn:∃n,P.types.size+Made.depth=n+1:=⟨P.types.size+99,rfl⟩
    obtain ⟨n,hn⟩:=hn
    simp only[execOp,hop,h1]
    simp[hn,run_nilAhead hf]
   ·simp at h
  ·simp at h
 ·rename_i t i hop
  split at h
  ·rename_i s p he
   injection h with h
   subst h
   obtain ⟨q,h1,h2⟩:=ev_sound hrel hp he
   refine ⟨rfl,rfl,.bool (decide (q<(s.eval ρ).toStr.length)),?_,?_⟩
   ·simp only[execOp,hop,h2]
    split<;>rename_i hlt<;>simp[Instr.extract,hlt]
   ·rw[RdX_bool]
    simp[E.eval,cmpI,h1]
  ·rename_i s p he
   injection h with h
   subst h
   obtain ⟨q,h1,h2⟩:=ev_sound hrel hp he
   have h3:=ho.1 hp
   simp[E.eval,cmpI,h1] at h3
   refine ⟨rfl,rfl,.int .i64 q,?_,by rw[RdX_int,h1]⟩
   rw[if_pos h3] at h2
   simp[execOp,hop,h2,Instr.extract]
  ·rename_i s p he
   injection h with h
   subst h
   obtain ⟨q,h1,h2⟩:=ev_sound hrel hp he
   have h3:=ho.1 hp
   simp[E.eval,cmpI,h1] at h3
   refine ⟨rfl,rfl,_,?_,by rw[RdX_int]⟩
   rw[if_pos h3] at h2
   simp[execOp,hop,h2,Instr.extract,E.eval,h1]
  ·rename_i he
   injection h with h
   subst h
   obtain ⟨z,h2⟩:=ev_sound hrel hp he
   exact ⟨rfl,rfl,z,by simp[execOp,hop,h2,Instr.extract],trivial⟩
  ·rename_i he
   injection h with h
   subst h
   obtain ⟨z,h2⟩:=ev_sound hrel hp he
   exact ⟨rfl,rfl,.bool false,by simp[execOp,hop,h2,Instr.extract],by rw[RdX_bool];rfl⟩
  ·simp at h
 ·rename_i x xt ty ok hop
  have hzero:((P.info? ty).bind (·.zero)).isSome=true→∃z,(zeroValue ty).run P w= .ok z w:=by
   intro hz
   obtain ⟨z,hz⟩:=Option.isSome_iff_exists.1 hz
   obtain ⟨i,hi,hz⟩:=Option.bind_eq_some_iff.1 hz
   exact ⟨z,by simp[zeroValue,typeInfo,hi,hz]⟩
  split at h
  ·rename_i t s e want he hu
   obtain ⟨us,h1,h2⟩:=RdX_ifc (ev_sound hrel hp he)
   split at h
   ·rename_i hall
    have hmm:∃i,P.info? t=some i∧Instr.missingMethod want i.methods=none:=by
     unfold hasAll at hall
     obtain ⟨i,hi,hm⟩:=Option.map_eq_some_iff.1 hall
     exact ⟨i,hi,(missing_iff _ _).2 (List.isEmpty_iff.1 hm)⟩
    obtain ⟨i,hi,hm⟩:=hmm
    cases ok with
    |true=>
     simp only[if_true,Option.some.injEq] at h
     subst h
     refine ⟨rfl,rfl,.tuple #[.iface t (s.mk us),.bool true],?_,⟨⟨[.iface t (s.mk us),.bool true],rfl,⟨_,_,rfl,RdX_dat (RdX_ifc_of (bs:=S.blks) (hv:=hv) h2),_,_,rfl,⟨[.bool true],rfl,by simp[Sh.mk,Sh.isAgg]⟩,rfl⟩⟩,?_⟩⟩
     ·simp[execOp,hop,h1,Instr.typeAssert,run_underlying hu,run_typeInfo hi,hm]
     ·intro x hx vs
      simp only[List.mem_cons,List.not_mem_nil,or_false] at hx
      rcases hx with rfl|rfl
      ·cases e<;>trivial
      ·trivial
    |false=>
     simp only[Bool.false_eq_true,if_false,Option.some.injEq] at h
     subst h
     refine ⟨rfl,rfl,.iface t (s.mk us),?_,RdX_ifc_of h2⟩
     simp[execOp,hop,h1,Instr.typeAssert,run_underlying hu,run_typeInfo hi,hm]
   ·rename_i hall
    have hmm:∃i m,P.info? t=some i∧Instr.missingMethod want i.methods=some m:=by
     unfold hasAll at hall
     obtain ⟨i,hi,hm⟩:=Option.map_eq_some_iff.1 hall
     cases hx:Instr.missingMethod want i.methods with
     |none=>rw[(missing_iff _ _).1 hx] at hm;cases hm
     |some m=>exact ⟨i,m,hi,hx⟩
    obtain ⟨i,m,hi,hm⟩:=hmm
    split at h
    ·rename_i hok
     simp only[Bool.and_eq_true] at hok
     injection h with h
     subst h
     obtain ⟨z,hz⟩:=hzero hok.2
     refine ⟨rfl,rfl,.tuple #[z,.bool false],?_,z,rfl⟩
     simp[execOp,hop,h1,Instr.typeAssert,run_underlying hu,run_typeInfo hi,hm,hok.1,hz]
    ·simp at h
   ·simp at h
  ·rename_i t s e d hne he hu
   obtain ⟨us,h1,h2⟩:=RdX_ifc (ev_sound hrel hp he)
   have hni:∀want,d≠ .interface want:=by
    intro want hd
    subst hd
    first|exact hne _ hu|exact hne _ rfl hu|exact hne _ _ _ _ he hu|exact hne _ rfl rfl|exact hne _ rfl
   split at h
   ·rename_i ht
    subst ht
    have hrd:RdV w (NN N0 w0.own ρ S.blks hv) s (s.mk us) ((dull e).eval ρ):=⟨us,by rw[eval_dull];exact h2,rfl⟩
    cases ok with
    |true=>
     simp only[if_true,Option.some.injEq] at h
     subst h
     refine ⟨rfl,rfl,.tuple #[s.mk us,.bool true],?_,⟨⟨[s.mk us,.bool true],rfl,⟨_,_,rfl,hrd,_,_,rfl,⟨[.bool true],rfl,by simp[Sh.mk,Sh.isAgg]⟩,rfl⟩⟩,?_⟩⟩
     ·simp only[execOp,hop,h1,Instr.typeAssert]
      simp only[Sem.run_bind,run_underlying hu,Result.andThen_ok]
      cases d<;>first|(simp;done)|exact absurd rfl (hni _)
     ·intro x hx vs
      simp only[List.mem_cons,List.not_mem_nil,or_false] at hx
      rcases hx with rfl|rfl
      ·exact Exact_dull _ _ _
      ·trivial
    |false=>
     simp only[Bool.false_eq_true,if_false,Option.some.injEq] at h
     subst h
     refine ⟨rfl,rfl,s.mk us,?_,RdX_of hrd (Exact_dull _ _)⟩
     simp only[execOp,hop,h1,Instr.typeAssert]
     simp only[Sem.run_bind,run_underlying hu,Result.andThen_ok]
     cases d<;>first|(simp;done)|exact absurd rfl (hni _)
   ·rename_i ht
    split at h
    ·rename_i hok
     simp only[Bool.and_eq_true] at hok
     injection h with h
     subst h
     obtain ⟨z,hz⟩:=hzero hok.2
     refine ⟨rfl,rfl,.tuple #[z,.bool false],?_,z,rfl⟩
     simp only[execOp,hop,h1,Instr.typeAssert]
     simp only[Sem.run_bind,run_underlying hu,Result.andThen_ok]
     cases d<;>first|(simp[ht,hok.1,hz];done)|exact absurd rfl (hni _)
    ·simp at h
  ·rename_i e d he hu
   have h1:=RdX_nili (ev_sound hrel hp he)
   split at h
   ·rename_i hok
    simp only[Bool.and_eq_true] at hok
    injection h with h
    subst h
    obtain ⟨z,hz⟩:=hzero hok.2
    refine ⟨rfl,rfl,.tuple #[z,.bool false],?_,z,rfl⟩
    simp only[execOp,hop,h1,Instr.typeAssert]
    simp only[Sem.run_bind,run_underlying hu,Result.andThen_ok]
    cases d<;>(simp[hok.1,hz];done)
   ·simp at h
  ·simp at h
 ·rename_i op xt x y yt hop
  have e2:a.eval (.const .nilIface)= .nilIface:=rfl
  split at h
  ·rename_i t s e l he hu
   injection h with h
   subst h
   obtain ⟨us,h1,h2⟩:=RdX_ifc (ev_sound hrel hp he)
   refine ⟨rfl,rfl,.bool false,?_,by rw[RdX_bool];rfl⟩
   simp only[execOp,hop,h1,e2]
   simp[eqGuard,binOp,equal_ifn hu]
  ·rename_i t s e l he hu
   injection h with h
   subst h
   obtain ⟨us,h1,h2⟩:=RdX_ifc (ev_sound hrel hp he)
   refine ⟨rfl,rfl,.bool true,?_,by rw[RdX_bool];rfl⟩
   simp only[execOp,hop,h1,e2]
   simp[eqGuard,binOp,equal_ifn hu]
  ·rename_i e l he hu
   injection h with h
   subst h
   have h1:=RdX_nili (ev_sound hrel hp he)
   refine ⟨rfl,rfl,.bool true,?_,by rw[RdX_bool];rfl⟩
   simp only[execOp,hop,h1,e2]
   simp[eqGuard,binOp,equal_nn hu]
  ·rename_i e l he hu
   injection h with h
   subst h
   have h1:=RdX_nili (ev_sound hrel hp he)
   refine ⟨rfl,rfl,.bool false,?_,by rw[RdX_bool];rfl⟩
   simp only[execOp,hop,h1,e2]
   simp[eqGuard,binOp,equal_nn hu]
  ·simp at h
 ·rename_i c x y hop
  split at h
  ·rename_i hc
   have h1:=ev_sound hrel hp hc
   rw[RdX_bool] at h1
   split at h
   ·rename_i z hz
    injection h with h
    subst h
    exact ⟨rfl,rfl,a.eval x,by simp[execOp,hop,h1,asBool,E.eval],ev_sound hrel hp hz⟩
   ·simp at h
  ·rename_i hc
   have h1:=ev_sound hrel hp hc
   rw[RdX_bool] at h1
   split at h
   ·rename_i z hz
    injection h with h
    subst h
    exact ⟨rfl,rfl,a.eval y,by simp[execOp,hop,h1,asBool,E.eval],ev_sound hrel hp hz⟩
   ·simp at h
  ·simp at h
 ·simp at h
theorem presFalse_not (h:presFalse pc=true) (hp:presTrue ρ pc):False:=by
 unfold presFalse at h
 rw[List.any_eq_true] at h
 obtain ⟨⟨e,b⟩,hm,hx⟩:=h
 have:=hp _ hm
 cases e<;>simp_all[E.eval]
theorem opx_sound {out:Out} (hrel:RelH P N0 w0 ρ S hv a w) (hp:presTrue ρ pc) (h:opx P cfg o pc (S.ev P) S.rb S.nv=some out) (ho:obsHold P ρ S.nv out.obs):
  o.wp P a w (fun a' w'=>∃hv',RelH P N0 w0 ρ {tmps:=putT S.tmps o.dst ⟨pc,out.x⟩,blks:=runCmds out.cmds S.blks,nv:=S.nv+out.nv} hv' a' w') Q:=by
 unfold opx at h
 split at h
 ·rename_i hf
  exact (presFalse_not hf hp).elim
 ·split at h
  ·rename_i out' hx
   injection h with h
   subst h
   obtain ⟨h1,h2,v,h3,h4⟩:=preX_sound hrel hp hx ho
   rw[h1]
   exact fin_step h3 hrel h4 hp
  ·exact opx0_sound hrel hp h ho
end
end Go.Vc

namespace Go.Vc
open Go.RowKit
section
variable {P:Program} {N0:Nat→Prop} {w0:Wb} {ρ:List C} {S:SS} {hv:Nat→Value} {a:Act} {w:World}
/-- One block of the call's own has been written. -/
theorem RelH.write (h:RelH P N0 w0 ρ S hv a w) {r:Nat} {lb lb':LB} (hr:S.blks[r]?=some ⟨lb,false,[]⟩) (hl:liveB ⟨lb,false,[]⟩=true) (hl':liveB ⟨lb',false,[]⟩=true) {g:Nat} (hg:blkNo (hv r)=some g) {w':World}
  (h1:w'.os=w.os) (h2:w'.tape=w.tape) (h3:w'.output=w.output) (hs:w'.heap.size=w.heap.size) (hk:∀k,k≠g→w'.heap[k]?=w.heap[k]?)
  (hle:BsLe ρ S.blks (S.blks.set r ⟨lb',false,[]⟩) hv hv)
  (hok:(∀b,NN N0 w0.own ρ S.blks hv b→b<w.heap.size→w'.heap[b]?=w.heap[b]?∧NN N0 w0.own ρ (S.blks.set r ⟨lb',false,[]⟩) hv b)→
   BlkOk w' w0.own (NN N0 w0.own ρ (S.blks.set r ⟨lb',false,[]⟩) hv) ρ (S.blks.set r ⟨lb',false,[]⟩) hv r lb'):
  RelH P N0 w0 ρ {S with blks:=S.blks.set r ⟨lb',false,[]⟩} hv a w':=by
 have hrl:r<S.blks.length:=(List.getElem?_eq_some_iff.1 hr).1
 have hbg:=(h.lt hr hl (presTrue_nil ρ) hg).2
 have hkk:∀b,NN N0 w0.own ρ S.blks hv b→b<w.heap.size→w'.heap[b]?=w.heap[b]?∧NN N0 w0.own ρ (S.blks.set r ⟨lb',false,[]⟩) hv b:=by
  intro b hb _
  refine ⟨hk b fun e=>hb.2 r _ hr hl rfl (presTrue_nil ρ) (by rw[e];exact hg),hb.1,fun r' k hr' hl2 hf hp=>?_⟩
  by_cases hrr:r'=r
  ·subst hrr
   exact hb.2 r' _ hr hl rfl (presTrue_nil ρ)
  ·rw[List.getElem?_set_ne (fun e=>hrr e.symm)] at hr'
   exact hb.2 r' k hr' hl2 hf hp
 refine h.step hle (h.below.after h1 h2 h3 (by omega) fun k _ hn=>hk k fun e=>hn (by rw[e];exact hbg)) (by omega) hkk ?_ ?_
 ·intro r' k hr' hp
  by_cases hrr:r'=r
  ·subst hrr
   rw[List.getElem?_set_self hrl] at hr'
   injection hr' with hr'
   subst hr'
   exact hok hkk
  ·rw[List.getElem?_set_ne (fun e=>hrr e.symm)] at hr'
   by_cases hlk:liveB k=true
   ·exact (h.blks r' k hr' hp).le (by omega) hkk hle rfl fun g' hg'=>hk g' fun e=>by
     subst e
     exact h.dist r r' _ k g' hr hr' (fun e=>hrr e.symm) hl hlk (presTrue_nil ρ) hp hg hg'
   ·obtain ⟨lb2,f2,p2⟩:=k
    cases lb2 with
    |none=>trivial
    |dead=>trivial
    |row s e=>exact absurd rfl hlk
    |box cs=>exact absurd rfl hlk
    |mp _ _ _=>exact absurd rfl hlk
    |sit _ _=>exact absurd rfl hlk
 ·intro r1 r2 k1 k2 g' hr1 hr2 hne hl1 hl2 hp1 hp2
  have back:∀(q:Nat) (k:Blk),(S.blks.set r ⟨lb',false,[]⟩)[q]?=some k→liveB k=true→presTrue ρ k.pres→∃k0,S.blks[q]?=some k0∧liveB k0=true∧presTrue ρ k0.pres:=by
   intro q k hq hlk hpk
   by_cases hqr:q=r
   ·subst hqr
    exact ⟨_,hr,hl,presTrue_nil ρ⟩
   ·rw[List.getElem?_set_ne (fun e=>hqr e.symm)] at hq
    exact ⟨k,hq,hlk,hpk⟩
  obtain ⟨k3,a1,a2,a3⟩:=back r1 k1 hr1 hl1 hp1
  obtain ⟨k4,b1,b2,b3⟩:=back r2 k2 hr2 hl2 hp2
  exact h.dist r1 r2 k3 k4 g' a1 b1 hne a2 b2 a3 b3
/-- A row whose content is of the same length. -/
theorem row_le {bs:List Blk} {r:Nat} {s:Sh} {e e':E} {f:Bool} (hr:bs[r]?=some ⟨.row s e,f,[]⟩) (hl:(e.eval ρ).toList.length=(e'.eval ρ).toList.length):BsLe ρ bs (bs.set r ⟨.row s e',false,[]⟩) hv hv:=by
 have hrl:r<bs.length:=(List.getElem?_eq_some_iff.1 hr).1
 refine ⟨fun q hq=>⟨?_,rfl⟩,fun q s' e2 p hq h=>?_,fun q cs p hq h=>?_⟩
 ·by_cases hqr:q=r
  ·subst hqr
   exact ⟨_,List.getElem?_set_self hrl,by simp⟩
  ·obtain ⟨k,h1,h2⟩:=hq
   exact ⟨k,by rw[List.getElem?_set_ne (fun e=>hqr e.symm)];exact h1,h2⟩
 ·by_cases hqr:q=r
  ·subst hqr
   simp[rowIn,hrl] at h
   obtain ⟨rfl,rfl,rfl⟩:=h
   exact ⟨e,by simp[rowIn,hr],hl⟩
  ·unfold rowIn at h ⊢
   rw[List.getElem?_set_ne (fun e=>hqr e.symm)] at h
   exact ⟨e2,h,rfl⟩
 ·by_cases hqr:q=r
  ·subst hqr
   simp[boxIn,hrl] at h
  ·unfold boxIn at h ⊢
   rw[List.getElem?_set_ne (fun e=>hqr e.symm)] at h
   exact ⟨cs,h⟩
theorem box_le {bs:List Blk} {r:Nat} {cs cs':List SX} {f:Bool} (hr:bs[r]?=some ⟨.box cs,f,[]⟩):BsLe ρ bs (bs.set r ⟨.box cs',false,[]⟩) hv hv:=by
 have hrl:r<bs.length:=(List.getElem?_eq_some_iff.1 hr).1
 refine ⟨fun q hq=>⟨?_,rfl⟩,fun q s' e2 p hq h=>?_,fun q cs2 p hq h=>?_⟩
 ·by_cases hqr:q=r
  ·subst hqr
   exact ⟨_,List.getElem?_set_self hrl,by simp⟩
  ·obtain ⟨k,h1,h2⟩:=hq
   exact ⟨k,by rw[List.getElem?_set_ne (fun e=>hqr e.symm)];exact h1,h2⟩
 ·by_cases hqr:q=r
  ·subst hqr
   simp[rowIn,hrl] at h
  ·unfold rowIn at h ⊢
   rw[List.getElem?_set_ne (fun e=>hqr e.symm)] at h
   exact ⟨e2,h,rfl⟩
 ·by_cases hqr:q=r
  ·subst hqr
   simp[boxIn,hrl] at h
   obtain ⟨rfl,rfl⟩:=h
   exact ⟨cs,by simp[boxIn,hr]⟩
  ·unfold boxIn at h ⊢
   rw[List.getElem?_set_ne (fun e=>hqr e.symm)] at h
   exact ⟨cs2,h⟩
theorem run_storeAt {t:TypeId} {s:Sh} (hf:fitsT P t s=true) {us:List Value} (hl:us.length=s.size) (h1:∀u∈us,u.oneCell'=true∧∀cs,u≠ .agg cs) {g off:Nat} {cur:Array Value} {ty:TypeId}
  (hg:w.heap[g]?=some (.cells cur ty (0,0))) (hle:off+us.length≤cur.size):
  (Instr.storeAt t (.pointer (some ⟨g,off,none⟩)) (s.mk us)).run P w= .ok () (w.setRow g (cur.toList.take off++us++cur.toList.drop (off+us.length)).toArray):=by
 have hc:=mk_cells hl fun u hu=>(h1 u hu).2
 have hsz:(s.mk us).cells.size=s.size:=by rw[←Array.length_toList,hc,hl]
 have hst:=run_storeCells_at P g off ty us 0 cur w hg (by simpa using hle) (fun v hv=>(h1 v hv).1)
 simp only[Nat.add_zero] at hst
 simp[Instr.storeAt,Instr.sureAddr,storeVar,run_sizeOf hf,hsz,hc,hst]
/-- The element's cells with one field's others. -/
theorem Rd_fset {N:Nat→Prop}:∀ {s:Sh} {j:Nat} {vs us:List Value} {c x:C} {s':Sh} {off:Nat},Rd w N s vs c→s.fld j=some (s',off)→Rd w N s' us x→
  Rd w N s (vs.take off++(us++vs.drop (off+s'.size))) (c.fset j x)
 | .pair a b,0,vs,us,c,x,s',off,h,hf,hu=>by
  simp[Sh.fld] at hf
  obtain ⟨rfl,rfl⟩:=hf
  obtain ⟨h0,va,vb,rfl,h1,h2⟩:=h
  refine ⟨h0,us,vb,?_,by simpa [C.fset,C.hd] using hu,h2.of_list h0 (by simp[C.fset,C.tl])⟩
  simp[←h1.length]
 | .pair a b,j+1,vs,us,c,x,s',off,h,hf,hu=>by
  simp[Sh.fld] at hf
  obtain ⟨s1,o',hf,rfl,rfl⟩:=hf
  obtain ⟨h0,va,vb,rfl,h1,h2⟩:=h
  have ih:=Rd_fset h2 hf hu
  refine ⟨h0,va,vb.take o'++(us++vb.drop (o'+s1.size)),?_,by simpa [C.fset,C.hd] using h1,ih.of_list h0 (by simp[C.fset,C.tl])⟩
  rw[←h1.length,Nat.add_assoc,List.take_append,List.drop_append]
  simp
  rw[List.take_of_length_le (by omega),List.drop_of_length_le (by omega)]
  simp
 | .int _,_,_,_,_,_,_,_,_,hf,_| .bool,_,_,_,_,_,_,_,_,hf,_| .str,_,_,_,_,_,_,_,_,hf,_| .sl _,_,_,_,_,_,_,_,_,hf,_| .unit,_,_,_,_,_,_,_,_,hf,_=>by simp[Sh.fld] at hf
theorem frzAll_eq (f:List Nat) (bs:List Blk):frzAll f bs=runCmds (f.map .frz) bs:=by
 unfold frzAll runCmds
 rw[List.foldl_map]
 rfl
theorem frzs_other {r:Nat}:∀(f:List Nat) (bs:List Blk),r∉f→(runCmds (f.map .frz) bs)[r]?=bs[r]?
 | [],_,_=>rfl
 |q::f,bs,h=>by
  have h1:=frzs_other (r:=r) f (bs.modify q fun b=> {b with froz:=true}) (fun hm=>h (List.mem_cons_of_mem _ hm))
  have h2:(bs.modify q fun b=> {b with froz:=true})[r]?=bs[r]?:=by
   have hne:¬q=r:=by rintro rfl;exact h (by simp)
   simp[hne]
  exact h1.trans h2
theorem own_heap {B:Nat→Prop} {et:TypeId} {size:Nat} {v:Value} {n:Nat} {xs:List Value} {g:Nat} (h:w.ownsR B et size v n xs) (hg:blkNo v=some g):
  ∃cap cur,v= .slice (some ⟨g,0,none⟩) n cap∧B g∧w.heap[g]?=some (.cells cur et (0,0))∧n≤cap∧cap≤maxLen∧cur.size=cap*size∧cur.toList.take (n*size)=xs:=by
 obtain ⟨_,h2⟩:=h
 rcases h2 with ⟨h2,_⟩|⟨g',cap,cur,h3,h4⟩
 ·rw[h2] at hg;cases hg
 ·rw[h3] at hg
  injection hg with hg
  subst hg
  exact ⟨cap,cur,h3,h4⟩
theorem setRow_keep {g:Nat} {cs:Array Value} {k:Nat} (h:k≠g):(w.setRow g cs).heap[k]?=w.heap[k]?:=setRow_other w g k cs h
/-- The cells of a row with a segment laid over. -/
theorem take_seg (cur us:List Value) (off n:Nat) (h:off+us.length≤n) (hn:n≤cur.length):
  (cur.take off++us++cur.drop (off+us.length)).take n=(cur.take n).take off++(us++(cur.take n).drop (off+us.length)):=by
 have hX:(cur.take off++us).length=off+us.length:=by simp;omega
 rw[List.take_append,List.take_of_length_le (l:=cur.take off++us) (by rw[hX];exact h),hX,List.take_take,Nat.min_eq_left (by omega),List.drop_take,List.append_assoc]
/-- A store into a row of the call's own. -/
theorem row_store (h:RelH P N0 w0 ρ S hv a w) {r:Nat} {es:Sh} {e e':E} (hr:S.blks[r]?=some ⟨.row es e,false,[]⟩) {g:Nat} (hg:blkNo (hv r)=some g) {off:Nat} {us:List Value}
  (hl:(e.eval ρ).toList.length=(e'.eval ρ).toList.length)
  (hxs:∀xs,RdRow w (NN N0 w0.own ρ S.blks hv) es xs (e.eval ρ).toList→xs.length=(e.eval ρ).toList.length*es.size→off+us.length≤xs.length∧
   RdRow w (NN N0 w0.own ρ S.blks hv) es (xs.take off++(us++xs.drop (off+us.length))) (e'.eval ρ).toList):
  ∃cur ty,w.heap[g]?=some (.cells cur ty (0,0))∧off+us.length≤cur.size∧
   RelH P N0 w0 ρ {S with blks:=S.blks.set r ⟨.row es e',false,[]⟩} hv a (w.setRow g (cur.toList.take off++us++cur.toList.drop (off+us.length)).toArray):=by
 obtain ⟨et,xs,hown,hrd,hsz⟩:=h.rows.row r es e [] (by simp[rowIn,hr]) (presTrue_nil ρ)
 obtain ⟨cap,cur,h1,h2,h3,h4,h5,h6,h7⟩:=own_heap hown hg
 obtain ⟨g1,g2⟩:=hxs xs hrd hrd.length
 have hcl:(e.eval ρ).toList.length*es.size≤cur.size:=by rw[h6];exact Nat.mul_le_mul_right _ h4
 have hxl:xs.length=(e.eval ρ).toList.length*es.size:=hrd.length
 refine ⟨cur,et,h3,by omega,?_⟩
 refine h.write hr rfl rfl hg rfl rfl rfl (by simp) (fun k hk=>setRow_keep hk) (row_le hr hl) fun hkk=>?_
 refine ⟨et,xs.take off++(us++xs.drop (off+us.length)),⟨?_,.inr ⟨g,cap,_,?_,h2,setRow_heap w g cur _ et _ h3,by omega,h5,?_,?_⟩⟩,g2.mono (by simp) hkk,hsz⟩
 ·rw[←hl,←hxl]
  simp
  omega
 ·rw[←hl]
  exact h1
 ·simp only[List.size_toArray,List.length_append,List.length_take,List.length_drop,Array.length_toList]
  omega
 ·rw[←hl]
  simp only[]
  rw[take_seg cur.toList us off _ (by omega) (by simpa using hcl),h7]
theorem eval_set_length (e i x:E):(((E.set e i x).eval ρ)).toList.length=(e.eval ρ).toList.length:=by simp[E.eval]
end
section
variable {P:Program} {cfg:Cfg} {N0:Nat→Prop} {w0:Wb} {ρ:List C} {S:SS} {hv:Nat→Value} {a:Act} {w:World} {o:Oper} {Q:Exit→Act→World→Prop}
theorem fin_skip {w':World} {hv':Nat→Value} {bs':List Blk} (hr:(execOp a.eval o).run P w= .ok .skip w') (hrel:RelH P N0 w0 ρ {S with blks:=bs'} hv' a w'):
  o.wp P a w (fun a' w'=>∃hv',RelH P N0 w0 ρ {S with tmps:=putT S.tmps o.dst ⟨[],.none⟩,blks:=bs'} hv' a' w') Q:=by
 unfold Oper.wp
 rw[hr]
 exact ⟨hv',hrel.put o.dst [] .none undef (fun _=>trivial) (fun _=>rfl)⟩
theorem storeRowX_sound (hrel:RelH P N0 w0 ρ S hv a w) {t:TypeId} {ad x:Operand} (hop:o.op= .store t ad x) {r:Nat} {es:Sh} {e i:E} {fo:Nat} {s:Sh} {fld:Option Nat} {y:SX} {bs':List Blk}
  (hr:S.blks[r]?=some ⟨.row es e,false,[]⟩) (hf:fitsT P t s=true) (h:storeRowX S.blks r es e i fo s fld y=some bs')
  (ha:RdX w (NN N0 w0.own ρ S.blks hv) ρ S.blks hv (.ref r i fo s fld) (a.eval ad)) (hx:RdX w (NN N0 w0.own ρ S.blks hv) ρ S.blks hv y (a.eval x)):
  o.wp P a w (fun a' w'=>∃hv',RelH P N0 w0 ρ {S with tmps:=putT S.tmps o.dst ⟨[],.none⟩,blks:=bs'} hv' a' w') Q:=by
 unfold storeRowX at h
 split at h
 ·rename_i s' ex f hd
  split at h
  ·rename_i hok
   simp only[Bool.and_eq_true,decide_eq_true_eq,Bool.not_eq_true'] at hok
   obtain ⟨rfl,hnf⟩:=hok
   have hnf:r∉f:=by simpa using hnf
   obtain ⟨us,d1,d2,d3⟩:=datOf_sound hrel.rows (presTrue_nil ρ) hd hx
   have hfz:=hrel.frzs f
   rw[←frzAll_eq] at hfz
   have hr2:(frzAll f S.blks)[r]?=some ⟨.row es e,false,[]⟩:=by rw[frzAll_eq,frzs_other f _ hnf];exact hr
   obtain ⟨hkn,hrow,_⟩:=ha
   obtain ⟨oi,g,ho,hlt,hg,hp,hfld⟩:=hrow es e [] (by simp[rowIn,hr]) (presTrue_nil ρ)
   have m1:∀b,NF (NN N0 w0.own ρ S.blks hv) hv f b→b<w.heap.size→w.heap[b]?=w.heap[b]?∧NN N0 w0.own ρ (frzAll f S.blks) hv b:=fun b hb _=>⟨rfl,by rw[frzAll_eq];exact hrel.nf hb (datOf_rows (presTrue_nil ρ) hd)⟩
   have d1':=d1.mono (Nat.le_refl _) m1
   have hone:=Rd_one d1
   have fin:∀e' off,off=oi*es.size+fo→(e.eval ρ).toList.length=(e'.eval ρ).toList.length→
     (∀xs,RdRow w (NN N0 w0.own ρ (frzAll f S.blks) hv) es xs (e.eval ρ).toList→xs.length=(e.eval ρ).toList.length*es.size→off+us.length≤xs.length∧
      RdRow w (NN N0 w0.own ρ (frzAll f S.blks) hv) es (xs.take off++(us++xs.drop (off+us.length))) (e'.eval ρ).toList)→bs'=(frzAll f S.blks).set r ⟨.row es e',false,[]⟩→
     o.wp P a w (fun a' w'=>∃hv',RelH P N0 w0 ρ {S with tmps:=putT S.tmps o.dst ⟨[],.none⟩,blks:=bs'} hv' a' w') Q:=by
    intro e' off hoff hl hxs hbs
    obtain ⟨cur,ty,q1,q2,q3⟩:=row_store hfz hr2 hg hl hxs
    subst hbs
    refine fin_skip (S:=S) ?_ q3
    have hst:=run_storeAt (P:=P) hf d1.length hone q1 q2
    rw[hoff] at hst
    simp[execOp,hop,hp,d2,hst,hoff]
   obtain ⟨c,hc⟩:∃c,(e.eval ρ).toList[oi]?=some c:=⟨_,List.getElem?_eq_getElem hlt⟩
   have hmul:(oi+1)*es.size≤(e.eval ρ).toList.length*es.size:=Nat.mul_le_mul_right _ hlt
   rw[Nat.add_mul,Nat.one_mul] at hmul
   split at h
   ·obtain ⟨rfl,rfl⟩:=hfld
    simp at h
    subst h
    refine fin (.set e i ex) (oi*s.size) (by simp) (eval_set_length e i ex).symm (fun xs hxs hxl=>⟨by rw[d1.length];omega,?_⟩) rfl
    have:=hxs.set hlt d1'
    rw[d1.length]
    simpa [E.eval,ho,Nat.add_mul] using this
   ·rename_i j
    split at h
    ·rename_i hj
     simp at h
     subst h
     refine fin (.set e i (.fset j (.idx e i) ex)) (oi*es.size+fo) rfl (eval_set_length e i _).symm (fun xs hxs hxl=>?_) rfl
     have hat:=hxs.at_ hc
     obtain ⟨_,f2,_⟩:=Rd_fld hat hj
     have hfs:=Rd_fset hat hj d1'
     have hel:((xs.drop (oi*es.size)).take es.size).length=es.size:=by simp;omega
     have hb:fo+s.size≤es.size:=by rw[hel] at f2;exact f2
     refine ⟨by rw[d1.length];omega,?_⟩
     have:=hxs.set hlt hfs
     simp only[E.eval,ho,Int.toNat_natCast,C.toList_ls,List.getD,hc,Option.getD_some]
     rw[d1.length]
     have e1:xs.take (oi*es.size+fo)++(us++xs.drop (oi*es.size+fo+s.size))=
       xs.take (oi*es.size)++((((xs.drop (oi*es.size)).take es.size).take fo++(us++((xs.drop (oi*es.size)).take es.size).drop (fo+s.size)))++xs.drop ((oi+1)*es.size)):=by
      rw[List.take_take,Nat.min_eq_left (by omega),List.drop_take,List.drop_drop]
      rw[List.take_add]
      simp only[List.append_assoc]
      congr 3
      have e2:xs.drop (oi*es.size+fo+s.size)=(xs.drop (oi*es.size+(fo+s.size))).take (es.size-(fo+s.size))++(xs.drop (oi*es.size+(fo+s.size))).drop (es.size-(fo+s.size)):=by
       rw[List.take_append_drop,Nat.add_assoc]
      rw[e2,List.drop_drop]
      congr 2
      rw[Nat.add_mul,Nat.one_mul]
      omega
     rw[e1]
     exact this
    ·rename_i hne
     exact absurd hfld hne
  ·simp at h
 ·simp at h
theorem RdXs_app {N:Nat→Prop} {bs:List Blk}:∀ {l m:List SX} {us vs:List Value},RdXs w N ρ bs hv l us→RdXs w N ρ bs hv m vs→RdXs w N ρ bs hv (l++m) (us++vs)
 | [],_,_,_,h,h'=>by simp only[RdXs] at h;subst h;simpa using h'
 |_::_,_,_,_,⟨v,r,h1,h2,h3⟩,h'=>⟨v,r++_,by rw[h1];rfl,h2,RdXs_app h3 h'⟩
theorem RdXs_take {N:Nat→Prop} {bs:List Blk}:∀ {cs:List SX} {vs:List Value} (j:Nat),RdXs w N ρ bs hv cs vs→RdXs w N ρ bs hv (cs.take j) (vs.take j)
 | [],_,j,h=>by simp only[RdXs] at h;subst h;simp[RdXs]
 |_::_,_,0,h=>by simp[RdXs]
 |_::_,_,j+1,⟨v,r,h1,h2,h3⟩=>by
  subst h1
  exact ⟨v,_,rfl,h2,RdXs_take j h3⟩
theorem storeBoxX_sound (hrel:RelH P N0 w0 ρ S hv a w) {t:TypeId} {ad x:Operand} (hop:o.op= .store t ad x) {r:Nat} {cs:List SX} {i:E} {fo:Nat} {s:Sh} {fld:Option Nat} {y:SX} {bs':List Blk}
  (hr:S.blks[r]?=some ⟨.box cs,false,[]⟩) (hf:fitsT P t s=true) (h:storeBoxX S.blks r cs fo s y=some bs')
  (ha:RdX w (NN N0 w0.own ρ S.blks hv) ρ S.blks hv (.ref r i fo s fld) (a.eval ad)) (hx:RdX w (NN N0 w0.own ρ S.blks hv) ρ S.blks hv y (a.eval x)):
  o.wp P a w (fun a' w'=>∃hv',RelH P N0 w0 ρ {S with tmps:=putT S.tmps o.dst ⟨[],.none⟩,blks:=bs'} hv' a' w') Q:=by
 obtain ⟨hkn,_,hbox⟩:=ha
 obtain ⟨g,hg,hp⟩:=hbox cs [] (by simp[boxIn,hr]) (presTrue_nil ρ)
 obtain ⟨g',bt,arr,h1,h2,h3,h4⟩:=hrel.boxes r cs [] (by simp[boxIn,hr]) (presTrue_nil ρ)
 rw[h1] at hg
 injection hg with hg
 subst hg
 have hal:=RdXs_length h4
 have hgb:blkNo (hv r)=some g':=by rw[h1];rfl
 have fin:∀cs' us,a.eval x=s.mk us→us.length=s.size→(∀u∈us,u.oneCell'=true∧∀cs,u≠ .agg cs)→fo+s.size≤cs.length→
   RdXs w (NN N0 w0.own ρ S.blks hv) ρ S.blks hv cs' (arr.toList.take fo++us++arr.toList.drop (fo+us.length))→bs'=S.blks.set r ⟨.box cs',false,[]⟩→
   o.wp P a w (fun a' w'=>∃hv',RelH P N0 w0 ρ {S with tmps:=putT S.tmps o.dst ⟨[],.none⟩,blks:=bs'} hv' a' w') Q:=by
  intro cs' us hev hl hone hle hrd hbs
  subst hbs
  have hle2:fo+us.length≤arr.size:=by rw[hl];simp at hal;omega
  have hst:=run_storeAt (P:=P) hf hl hone h3 hle2
  refine fin_skip (S:=S) (hv':=hv) (w':=w.setRow g' (arr.toList.take fo++us++arr.toList.drop (fo+us.length)).toArray) (by simp[execOp,hop,hp,hev,hst]) ?_
  refine hrel.write hr rfl rfl hgb rfl rfl rfl (by simp) (fun k hk=>setRow_keep hk) (box_le hr) fun hkk=>?_
  exact ⟨g',bt,_,h1,h2,setRow_heap w g' arr _ bt _ h3,by simpa using hrd.le (by simp) hkk (box_le hr)⟩
 unfold storeBoxX at h
 split at h
 ·rename_i s' ex
  split at h
  ·rename_i hok
   simp only[Bool.and_eq_true,decide_eq_true_eq] at hok
   obtain ⟨rfl,hle⟩:=hok
   simp at h
   obtain ⟨us,d1,d2,d3⟩:=hx
   refine fin _ us d2 d1.length (Rd_one d1) hle ?_ h.symm
   rw[List.append_assoc,d1.length]
   exact RdXs_app (RdXs_take fo h4) (RdXs_app (flat_sound d1 d3) (RdXs_drop _ h4))
  ·simp at h
 ·rename_i r' n
  split at h
  ·rename_i es e hro
   split at h
   ·rename_i hok
    simp only[Bool.and_eq_true,decide_eq_true_eq] at hok
    obtain ⟨rfl,hle⟩:=hok
    simp at h
    obtain ⟨p,hin,hpp⟩:=rowOf_in (presTrue_nil ρ) hro
    obtain ⟨hv1,_⟩:=hx.2 _ _ p hin hpp
    obtain ⟨et,xs,hown,_,_⟩:=hrel.rows.row r' _ _ p hin hpp
    have hone:(a.eval x).oneCell'=true∧∀cs,a.eval x≠ .agg cs:=by
     rw[hv1]
     rcases own_cells hown with ⟨h5,_,_⟩|⟨g,cap,h5,_⟩<;>rw[h5]<;>simp[Value.oneCell']
    refine fin _ [a.eval x] (by simp[Sh.mk,Sh.isAgg]) rfl (by simpa using hone) (by simp[Sh.size];omega) ?_ h.symm
    have e1:cs.set fo (.full r' n)=cs.take fo++([.full r' n]++cs.drop (fo+1)):=by rw[List.set_eq_take_append_cons_drop,if_pos hle];rfl
    rw[e1,List.append_assoc]
    exact RdXs_app (RdXs_take fo h4) (RdXs_app ⟨_,[],rfl,hx,rfl⟩ (RdXs_drop _ h4))
   ·simp at h
  ·simp at h
 ·simp at h
theorem storeX_sound (hrel:RelH P N0 w0 ρ S hv a w) {t:TypeId} {ad x:Operand} (hop:o.op= .store t ad x) {bs':List Blk} (h:storeX P S.blks t (S.ev P [] ad 0) (S.ev P [] x t)=some bs'):
  o.wp P a w (fun a' w'=>∃hv',RelH P N0 w0 ρ {S with tmps:=putT S.tmps o.dst ⟨[],.none⟩,blks:=bs'} hv' a' w') Q:=by
 unfold storeX at h
 split at h
 ·rename_i r i fo s fld y had hxx
  split at h
  ·rename_i hf
   split at h
   ·rename_i es e hb
    exact storeRowX_sound hrel hop hb hf h (ev_sound hrel (presTrue_nil ρ) had) (ev_sound hrel (presTrue_nil ρ) hxx)
   ·rename_i cs hb
    exact storeBoxX_sound hrel hop hb hf h (ev_sound hrel (presTrue_nil ρ) had) (ev_sound hrel (presTrue_nil ρ) hxx)
   ·simp at h
  ·simp at h
 ·simp at h
theorem fin_nxt {x:SX} {v:Value} {w':World} {hv':Nat→Value} {bs':List Blk} (hr:(execOp a.eval o).run P w= .ok (.value v) w') (hrel:RelH P N0 w0 ρ {S with blks:=bs'} hv' a w')
  (hx:RdX w' (NN N0 w0.own ρ bs' hv') ρ bs' hv' x v):
  o.wp P a w (fun a' w'=>∃hv',RelH P N0 w0 ρ {S with tmps:=putT S.tmps o.dst ⟨[],x⟩,blks:=bs'} hv' a' w') Q:=by
 unfold Oper.wp
 rw[hr]
 exact ⟨hv',hrel.put o.dst [] x v (fun _=>hx) (fun h=>absurd (presTrue_nil ρ) h)⟩
/-- A map, or a string's iterator, has been written. -/
theorem obj_le {bs:List Blk} {r:Nat} {lb lb':LB} {f:Bool} (hr:bs[r]?=some ⟨lb,f,[]⟩) (h1:(∃k s e,lb'= .mp k s e)∨∃s p,lb'= .sit s p):BsLe ρ bs (bs.set r ⟨lb',false,[]⟩) hv hv:=by
 have hrl:r<bs.length:=(List.getElem?_eq_some_iff.1 hr).1
 refine ⟨fun q hq=>⟨?_,rfl⟩,fun q s' e2 p hq h=>?_,fun q cs p hq h=>?_⟩
 ·by_cases hqr:q=r
  ·subst hqr
   exact ⟨_,List.getElem?_set_self hrl,by rcases h1 with ⟨_,_,_,rfl⟩|⟨_,_,rfl⟩<;>simp⟩
  ·obtain ⟨k,h1,h2⟩:=hq
   exact ⟨k,by rw[List.getElem?_set_ne (fun e=>hqr e.symm)];exact h1,h2⟩
 ·by_cases hqr:q=r
  ·subst hqr
   rcases h1 with ⟨_,_,_,rfl⟩|⟨_,_,rfl⟩<;>simp[rowIn,hrl] at h
  ·unfold rowIn at h ⊢
   rw[List.getElem?_set_ne (fun e=>hqr e.symm)] at h
   exact ⟨e2,h,rfl⟩
 ·by_cases hqr:q=r
  ·subst hqr
   rcases h1 with ⟨_,_,_,rfl⟩|⟨_,_,rfl⟩<;>simp[boxIn,hrl] at h
  ·unfold boxIn at h ⊢
   rw[List.getElem?_set_ne (fun e=>hqr e.symm)] at h
   exact ⟨cs,h⟩
theorem dead_le {bs:List Blk} {r:Nat}:BsLe ρ bs (bs.set r ⟨.dead,false,[]⟩) hv hv:=by
 refine ⟨fun q hq=>⟨?_,rfl⟩,fun q s' e2 p hq h=>?_,fun q cs p hq h=>?_⟩
 ·obtain ⟨k,h1,h2⟩:=hq
  by_cases hqr:q=r
  ·subst hqr
   have hrl:=(List.getElem?_eq_some_iff.1 h1).1
   exact ⟨_,List.getElem?_set_self hrl,by simp⟩
  ·exact ⟨k,by rw[List.getElem?_set_ne (fun e=>hqr e.symm)];exact h1,h2⟩
 ·obtain ⟨k,h1,h2⟩:=hq
  by_cases hqr:q=r
  ·subst hqr
   have hrl:=(List.getElem?_eq_some_iff.1 h1).1
   simp[rowIn,hrl] at h
  ·unfold rowIn at h ⊢
   rw[List.getElem?_set_ne (fun e=>hqr e.symm)] at h
   exact ⟨e2,h,rfl⟩
 ·obtain ⟨k,h1,h2⟩:=hq
  by_cases hqr:q=r
  ·subst hqr
   have hrl:=(List.getElem?_eq_some_iff.1 h1).1
   simp[boxIn,hrl] at h
  ·unfold boxIn at h ⊢
   rw[List.getElem?_set_ne (fun e=>hqr e.symm)] at h
   exact ⟨cs,h⟩
theorem modify_get {α:Type} (a:Array α) (g k:Nat) (f:α→α):(a.modify g f)[k]?=if g=k then a[k]?.map f else a[k]?:=Array.getElem?_modify
theorem mark_os {a:Addr} {n:Nat}:(w.freeze a n).os=w.os:=by unfold World.freeze;split<;>rfl
theorem mark_tape {a:Addr} {n:Nat}:(w.freeze a n).tape=w.tape:=by unfold World.freeze;split<;>rfl
theorem mark_output {a:Addr} {n:Nat}:(w.freeze a n).output=w.output:=by unfold World.freeze;split<;>rfl
theorem mark_size {a:Addr} {n:Nat}:(w.freeze a n).heap.size=w.heap.size:=by unfold World.freeze;split<;>simp
theorem mark_other {g k o n:Nat} (h:k≠g):(w.freeze ⟨g,o,none⟩ n).heap[k]?=w.heap[k]?:=by
 unfold World.freeze
 split
 ·rfl
 ·simp only[]
  rw[modify_get,if_neg (fun e=>h e.symm)]
theorem mark_heap {g:Nat} {cur:Array Value} {et:TypeId} (hg:w.heap[g]?=some (.cells cur et (0,0))):(w.freeze ⟨g,cur.size,none⟩ 1).heap[g]?=some (.cells cur et (cur.size,cur.size+1)):=by
 unfold World.freeze
 rw[if_neg (by decide)]
 simp only[]
 rw[modify_get,if_pos rfl,hg]
 simp
theorem run_mark {P:Program} {t e et:TypeId} {g n c:Nat} {cur:Array Value} (ht:P.underlying t=some (.slice e)) (he:P.underlying e=some (.int .u8)) (hg:w.heap[g]?=some (.cells cur et (0,0))):
  (convert t t (.slice (some ⟨g,0,none⟩) n c)).run P w= .ok (.slice (some ⟨g,0,none⟩) n c) (w.freeze ⟨g,cur.size,none⟩ 1):=by
 have hsh:w.shape? g=some (et,cur.size):=by simp[World.shape?,hg]
 simp[convert,run_underlying ht,run_underlying he,markStringish,hsh]
theorem markX_sound (hrel:RelH P N0 w0 ρ S hv a w) {src:TypeId} {x:Operand} (hop:o.op= .convert src src x) {s:Sh} {e:E} {r:Nat} (h:markX P S.blks src (S.ev P [] x src)=some (s,e,r)):
  o.wp P a w (fun a' w'=>∃hv',RelH P N0 w0 ρ {S with tmps:=putT S.tmps o.dst ⟨[],.dat (.sl s) e⟩,blks:=S.blks.set r ⟨.dead,false,[]⟩} hv' a' w') Q:=by
 unfold markX at h
 split at h
 ·rename_i et r' n ht hx
  split at h
  ·rename_i s' e1 e2 hu hr
   simp only[Option.some.injEq,Prod.mk.injEq] at h
   obtain ⟨rfl,rfl,rfl⟩:=h
   generalize he':E.cons e1 e2=e' at*
   have hpos:(e'.eval ρ).toList.length≠0:=by rw[←he'];simp[E.eval,C.toList]
   have hrow:S.blks[r']?=some ⟨.row s' e',false,[]⟩:=by
    unfold ownRow at hr
    split at hr
    ·rename_i hb
     simp at hr
     obtain ⟨rfl,rfl⟩:=hr
     exact hb
    ·simp at hr
   have hin:rowIn S.blks r'=some (s',e',[]):=by simp[rowIn,hrow]
   obtain ⟨hkn,hx2⟩:=ev_sound hrel (presTrue_nil ρ) hx
   obtain ⟨hv1,_⟩:=hx2 _ _ _ hin (presTrue_nil ρ)
   obtain ⟨et',xs,hown,hrd,hsz⟩:=hrel.rows.row r' s' e' [] hin (presTrue_nil ρ)
   have hel:=elemT_spec ht
   obtain ⟨hxl,hown2⟩:=hown
   have fin:∀(w':World),(convert src src (a.eval x)).run P w= .ok (a.eval x) w'→w'.os=w.os→w'.tape=w.tape→w'.output=w.output→w'.heap.size=w.heap.size→(∀k,blkNo (hv r')≠some k→w'.heap[k]?=w.heap[k]?)→
     Rd w' (NN N0 w0.own ρ (S.blks.set r' ⟨.dead,false,[]⟩) hv) (.sl s') [a.eval x] (e'.eval ρ)→
     o.wp P a w (fun a' w'=>∃hv',RelH P N0 w0 ρ {S with tmps:=putT S.tmps o.dst ⟨[],.dat (.sl s') e'⟩,blks:=S.blks.set r' ⟨.dead,false,[]⟩} hv' a' w') Q:=by
    intro w' hrun h1 h2 h3 h4 h5 h6
    have hkk:∀b,NN N0 w0.own ρ S.blks hv b→b<w.heap.size→w'.heap[b]?=w.heap[b]?∧NN N0 w0.own ρ (S.blks.set r' ⟨.dead,false,[]⟩) hv b:=by
     intro b hb _
     refine ⟨h5 b (hb.2 r' _ hrow rfl rfl (presTrue_nil ρ)),hb.1,fun q k hq hl hf hp=>?_⟩
     by_cases hqr:q=r'
     ·subst hqr
      have hrl:=(List.getElem?_eq_some_iff.1 hrow).1
      rw[List.getElem?_set_self hrl] at hq
      injection hq with hq
      subst hq
      cases hl
     ·rw[List.getElem?_set_ne (fun e=>hqr e.symm)] at hq
      exact hb.2 q k hq hl hf hp
    refine fin_nxt (w':=w') (v:=a.eval x) ?_ (hrel.step (hv':=hv) dead_le (hrel.below.after h1 h2 h3 (by omega) fun k hk hn=>h5 k fun hg=>hn (hrel.lt hrow rfl (presTrue_nil ρ) hg).2) (by omega) hkk ?_ ?_) ⟨[a.eval x],h6,by simp[Sh.mk,Sh.isAgg],by rw[←he'];exact exact_noNil s' (.cons e1 e2) _⟩
    ·simp only[execOp,hop]
     rw[Sem.run_bind,hrun]
     rfl
    ·intro q k hq hp
     by_cases hqr:q=r'
     ·subst hqr
      have hrl:=(List.getElem?_eq_some_iff.1 hrow).1
      rw[List.getElem?_set_self hrl] at hq
      injection hq with hq
      subst hq
      trivial
     ·rw[List.getElem?_set_ne (fun e=>hqr e.symm)] at hq
      by_cases hl:liveB k=true
      ·exact (hrel.blks q k hq hp).le (by omega) hkk dead_le rfl fun g hg=>h5 g fun hg2=>hrel.dist q r' k _ g hq hrow hqr hl rfl hp (presTrue_nil ρ) hg hg2
      ·obtain ⟨lb,f,p⟩:=k
       cases lb with
       |none=>trivial
       |dead=>trivial
       |row s e=>exact absurd rfl hl
       |box cs=>exact absurd rfl hl
       |mp _ _ _=>exact absurd rfl hl
       |sit _ _=>exact absurd rfl hl
    ·intro q1 q2 k1 k2 g hq1 hq2 hne hl1 hl2 hp1 hp2 hg1 hg2
     have back:∀(q:Nat) (k:Blk),(S.blks.set r' ⟨.dead,false,[]⟩)[q]?=some k→liveB k=true→S.blks[q]?=some k:=by
      intro q k hq hlk
      by_cases hqr:q=r'
      ·subst hqr
       have hrl:=(List.getElem?_eq_some_iff.1 hrow).1
       rw[List.getElem?_set_self hrl] at hq
       injection hq with hq
       subst hq
       cases hlk
      ·rwa[List.getElem?_set_ne (fun e=>hqr e.symm)] at hq
     exact hrel.dist q1 q2 k1 k2 g (back q1 k1 hq1 hl1) (back q2 k2 hq2 hl2) hne hl1 hl2 hp1 hp2 hg1 hg2
   rcases hown2 with ⟨hnil,hzero⟩|⟨g,cap,cur,hvv,hB,hg,hle,hcm,hcs,htk⟩
   ·exact absurd hzero hpos
   ·have hrow':=mark_heap (w:=w) (cur:=cur) (et:=et') hg
    refine fin (w.freeze ⟨g,cur.size,none⟩ 1) ?_ (mark_os ..) (mark_tape ..) (mark_output ..) (mark_size ..) (fun k hk=>mark_other fun e=>hk (by rw[hvv,e];rfl)) ?_
    ·rw[hv1,hvv]
     exact run_mark hel hu hg
    ·rw[hv1,hvv]
     refine ⟨some ⟨g,0,none⟩,cap,rfl,hle,hcm,fun _=>⟨g,0,rfl,⟨.inr hB,fun q k hq hl hf hp hgk=>?_⟩,?_,RowAt.of_row (hrd.mono (by rw[mark_size];exact Nat.le_refl _) ?_) ?_⟩⟩
     ·by_cases hqr:q=r'
      ·subst hqr
       have hrl:=(List.getElem?_eq_some_iff.1 hrow).1
       rw[List.getElem?_set_self hrl] at hq
       injection hq with hq
       subst hq
       cases hl
      ·rw[List.getElem?_set_ne (fun e=>hqr e.symm)] at hq
       exact hrel.dist q r' k _ g hq hrow hqr hl rfl hp (presTrue_nil ρ) hgk (by rw[hvv];rfl)
     ·rw[mark_size]
      exact (Array.getElem?_eq_some_iff.1 hg).1
     ·intro b hb _
      refine ⟨mark_other fun e=>hb.2 r' _ hrow rfl rfl (presTrue_nil ρ) (by rw[hvv,e];rfl),hb.1,fun q k hq hl hf hp=>?_⟩
      by_cases hqr:q=r'
      ·subst hqr
       have hrl:=(List.getElem?_eq_some_iff.1 hrow).1
       rw[List.getElem?_set_self hrl] at hq
       injection hq with hq
       subst hq
       cases hl
      ·rw[List.getElem?_set_ne (fun e=>hqr e.symm)] at hq
       exact hb.2 q k hq hl hf hp
     ·intro j u hu
      rw[Nat.zero_add,cell_of_row _ g j cur et' _ hrow']
      rw[←htk,List.getElem?_take] at hu
      split at hu
      ·simpa using hu
      ·cases hu
  ·simp at h
 ·simp at h
theorem mputX_sound (hrel:RelH P N0 w0 ρ S hv a w) {t:TypeId} {m k x:Operand} (hop:o.op= .mapUpdate t m k x) {r:Nat} {b:Blk} (h:mputX P S.blks t (S.ev P [] m t) (intOf? (S.ev P [] k 0)) (S.ev P [] x 0)=some (r,b)):
  o.wp P a w (fun a' w'=>∃hv',RelH P N0 w0 ρ {S with tmps:=putT S.tmps o.dst ⟨[],.none⟩,blks:=S.blks.set r b} hv' a' w') Q:=by
 unfold mputX at h
 split at h
 ·rename_i kk et r' k' ek s' ex ht hm hk hx
  split at h
  ·rename_i kk' s e hb
   split at h
   ·rename_i hok
    simp only[Bool.and_eq_true,decide_eq_true_eq,Bool.not_eq_true'] at hok
    obtain ⟨⟨⟨rfl,rfl⟩,rfl⟩,hag⟩:=hok
    simp only[Option.some.injEq,Prod.mk.injEq] at h
    obtain ⟨rfl,rfl⟩:=h
    obtain ⟨hkn,hv1⟩:=ev_sound hrel (presTrue_nil ρ) hm
    obtain ⟨g,l,h1,h2,h3,h4⟩:=hrel.blks r' _ hb (presTrue_nil ρ)
    obtain ⟨us,d1,d2,_⟩:=ev_sound hrel (presTrue_nil ρ) hx
    have hkv:=intOf_eval hrel (presTrue_nil ρ) hk
    obtain ⟨kt,hu1,hu2⟩:=mapT_spec ht
    have hus:us=[a.eval x]:=by
     have hl:=d1.length
     have hsz:s.size=1:=by cases s<;>first|rfl|cases hag
     rw[hsz] at hl
     match us,hl with
     | [u],_=>rw[d2,mk_leaf hag]
    subst hus
    obtain ⟨ob,g1,g2⟩:=h3.put_run2 (P:=P) hu1 hu2 (ek.eval ρ).toInt (a.eval x)
    have hgb:blkNo (hv r')=some g:=by rw[h1];rfl
    refine fin_skip (S:=S) (hv':=hv) (w':=w.putObj g ob) ?_ ?_
    ·simp only[execOp,hop,hv1,h1,hkv]
     rw[Sem.run_bind,g1]
     rfl
    ·refine hrel.write hb rfl rfl hgb rfl rfl rfl (by simp) (fun k hk=>World.putObj_heap_other hk) (obj_le hb (.inl ⟨_,_,_,rfl⟩)) fun hkk=>?_
     refine ⟨g,_,h1,h2,g2,?_⟩
     have hm1:∀ {v:Value} {d:C},Rd w (NN N0 w0.own ρ S.blks hv) s [v] d→Rd (w.putObj g ob) (NN N0 w0.own ρ (S.blks.set r' ⟨.mp kk s (.mput e ek ex),false,[]⟩) hv) s [v] d:=fun h=>h.mono (by simp) hkk
     exact MapRd.put _ (hm1 d1) (h4.imp fun _ _ h=>hm1 h)
   ·simp at h
  ·simp at h
 ·simp at h
theorem nextX_sound (hrel:RelH P N0 w0 ρ S hv a w) {it:Operand} (hop:o.op= .next it true) {x:SX} {r:Nat} {b:Blk} (h:nextX S.blks (S.ev P [] it 0)=some (x,r,b)):
  o.wp P a w (fun a' w'=>∃hv',RelH P N0 w0 ρ {S with tmps:=putT S.tmps o.dst ⟨[],x⟩,blks:=S.blks.set r b} hv' a' w') Q:=by
 unfold nextX at h
 split at h
 ·rename_i r' hi
  split at h
  ·rename_i s p hb
   simp only[Option.some.injEq,Prod.mk.injEq] at h
   obtain ⟨rfl,rfl,rfl⟩:=h
   obtain ⟨hkn,hv1⟩:=ev_sound hrel (presTrue_nil ρ) hi
   obtain ⟨g,q,h1,h2,h3,h4⟩:=hrel.blks r' _ hb (presTrue_nil ρ)
   have hgb:blkNo (hv r')=some g:=by rw[h1];rfl
   have hsz:(⟨(s.eval ρ).toStr.toArray⟩:ByteArray).size=(s.eval ρ).toStr.length:=by simp[ByteArray.size]
   have key:∃w':World,∃q':Nat,(Instr.next (.pointer (some ⟨g,0,none⟩)) true o.type).run P w= .ok (if q<(s.eval ρ).toStr.length then .tuple #[.bool true,.int .i64 (q:Int),.int .i32 ((Utf8.decode ⟨(s.eval ρ).toStr.toArray⟩ q).1:Nat)] else .tuple #[.bool false]) w'∧
     w'.os=w.os∧w'.tape=w.tape∧w'.output=w.output∧w'.heap.size=w.heap.size∧(∀k,k≠g→w'.heap[k]?=w.heap[k]?)∧w'.heap[g]?=some (.stringIter ⟨(s.eval ρ).toStr.toArray⟩ q')∧
     ((E.ite (.cmp .lss p (.slen s)) (.raw .add p (.dwid s p)) p).eval ρ).toInt=(q':Int):=by
    by_cases hlt:q<(s.eval ρ).toStr.length
    ·refine ⟨w.iterAt g ⟨(s.eval ρ).toStr.toArray⟩ (q+(Utf8.decode ⟨(s.eval ρ).toStr.toArray⟩ q).2),_,?_,rfl,rfl,rfl,Lib.iterAt_size _ _ _ _,fun k hk=>Lib.iterAt_other w g k _ _ hk,Lib.iterAt_heap w g _ q _ h4,?_⟩
     ·rw[Lib.run_next_any_at w g _ q o.type h4 (by rw[hsz];exact hlt),if_pos hlt]
     ·simp[E.eval,cmpI,h3,hlt,rawArith]
    ·refine ⟨w,q,?_,rfl,rfl,rfl,rfl,fun _ _=>rfl,h4,?_⟩
     ·rw[Lib.run_next_end_at w g _ q o.type h4 (by rw[hsz];exact hlt),if_neg hlt]
     ·simp[E.eval,cmpI,h3,hlt]
   obtain ⟨w',q',k1,k2,k3,k4,k5,k6,k7,k8⟩:=key
   refine fin_nxt (w':=w') ?_ (hrel.write hb rfl rfl hgb k2 k3 k4 k5 k6 (obj_le hb (.inr ⟨_,_,rfl⟩)) fun hkk=>⟨g,q',h1,h2,k8,k7⟩) ⟨q,h3,rfl⟩
   simp only[execOp,hop,hv1,h1]
   rw[Sem.run_bind,k1]
   rfl
  ·simp at h
 ·simp at h
end
end Go.Vc

namespace Go.Vc
open Go.RowKit
section
variable {P:Program} {w:World}
/-- How the model gets what is appended: out of a slice or a string, or so many zeros. -/
def SrcRun (P:Program) (w:World) (d2:TypeDesc) (x:Value) (s m:Nat) (z:Value) (news:List Value):Prop:=
 ((d2= .string∨∃e2,d2= .slice e2)∧(∀w',(Builtin.lenOf x).run P w'= .ok m w')∧∀k,(Builtin.firstCells s m x).run P {w with drawn:=k}= .ok news.toArray {w with drawn:=k})∨
 ∃q kx,d2= .int q∧x= .int kx (m:Int)∧news=(Builtin.zeroCells z.cells m).toList
theorem wrap_i64 {n:Int} (h: -9223372036854775808≤n) (h2:n<9223372036854775808):IntKind.i64.wrap n=n:=by
 simp[IntKind.wrap,IntKind.bits,IntKind.signed]
 split<;>omega
theorem run_asInt (P:Program) (w:World) (k:IntKind) (n:Int):(asInt (.int k n)).run P w= .ok n w:=by simp[asInt,asIntOf]
set_option maxHeartbeats 400000 in
theorem run_append_row {t t2 et ty:TypeId} {d2:TypeDesc} {i:TypeInfo} {z:Value} {s n m:Nat} {B:Nat→Prop} {et':TypeId} {v x:Value} {xs news:List Value}
  (ht:P.underlying t=some (.slice et)) (ht2:P.underlying t2=some d2) (hi:P.info? et=some i) (hz:i.zero=some z) (hs:i.size=s) (hzs:z.cells.size=s) (hs0:0<s)
  (hown:w.ownsR B et' s v n xs) (hS:SrcRun P w d2 x s m z news)
  (hln:news.length=m*s) (h1:∀u∈news,u.oneCell'=true) (h63:n+m≤maxLen) (hby:(n+m)*i.bytes≤140737488355328) (hB:B w.heap.size):
  ∃v' w' et2,(Builtin.append_ #[t,t2] ty #[v,x]).run P w= .ok v' w'∧w'.ownsR B et2 s v' (n+m) (xs++news)∧w.grownBy w' (blkNo v)∧(blkNo v'=blkNo v∨blkNo v'=some w.heap.size)∧w'.ownsR B et' s v n xs:=by
 have hlx:=hown.1
 have hll:(xs++news).length=(n+m)*s:=by rw[List.length_append,hlx,hln,Nat.add_mul]
 have hsm:n+m≤9223372036854775807:=by simp only[maxLen] at h63;omega
 have hbm:m*i.bytes≤140737488355328:=Nat.le_trans (Nat.mul_le_mul_right _ (Nat.le_add_left m n)) hby
 have z1:IntKind.i64.wrap (m:Int)=m:=by
  have h9:= @wrap_i64 (m:Int) (by omega) (by omega)
  exact h9
 have z2:¬((m:Int)<0):=by omega
 have z3:¬(281474976710656<(m:Int)*(i.bytes:Int)):=by
  have:((m*i.bytes:Nat):Int)≤140737488355328:=by omega
  rw[Int.natCast_mul] at this
  omega
 have grown:∀(old:Nat),
   (w.drew.alloc (.cells (xs.toArray++news.toArray++Builtin.zeroCells z.cells (grownCap w (n+m) old et-(n+m))) et)).ownsR B et s
    (.slice (some ⟨w.heap.size,0,none⟩) (n+m) (grownCap w (n+m) old et)) (n+m) (xs++news)∧
   ∀row,w.grownBy (w.drew.alloc (.cells (xs.toArray++news.toArray++Builtin.zeroCells z.cells (grownCap w (n+m) old et-(n+m))) et)) row:=by
  intro old
  have hge:=grownCap_ge w (n+m) old et
  have hcm:grownCap w (n+m) old et≤maxLen:=grownCap_le_maxLen w (n+m) old et h63
  refine ⟨⟨hll,.inr ⟨w.heap.size,_,_,rfl,hB,heap_alloc_new w.drew _,hge,hcm,?_,?_⟩⟩,fun row=>⟨rfl,rfl,rfl,by simp,fun k hk _=>Below.heap_alloc w.drew _ k hk⟩⟩
  ·simp only[Array.size_append,List.size_toArray,size_zeroCells,hzs,hlx,hln,←Nat.add_mul]
   congr 1
   omega
  ·simp only[Array.toList_append,List.append_assoc]
   rw[←List.append_assoc,←hll]
   exact List.take_left
 have hgc:∀old,(Question.appendCap (n+m) old et).cut (w.tape w.drawn (Question.appendCap (n+m) old et))=grownCap w (n+m) old et:=fun _=>rfl
 rcases hown.2 with ⟨rfl,rfl⟩|⟨g,cap,cur,rfl,hbg,hg,hnc,hcm,hcs,htake⟩
 ·have hx:xs=[]:=List.eq_nil_of_length_eq_zero (by simpa using hlx)
  subst hx
  by_cases hm:m=0
  ·subst hm
   have hn:news=[]:=List.eq_nil_of_length_eq_zero (by simpa using hln)
   subst hn
   refine ⟨.slice none 0 0,w,et,?_,⟨by simp,.inl ⟨rfl,rfl⟩⟩,⟨rfl,rfl,rfl,Nat.le_refl _,fun _ _ _=>rfl⟩,.inl rfl,⟨by simp,.inl ⟨rfl,rfl⟩⟩⟩
   rcases hS with ⟨hd2,hlen,hsrc⟩|⟨q,kx,rfl,rfl,hnz⟩
   ·have hsrc0:(Builtin.firstCells s 0 x).run P w= .ok #[] w:=hsrc w.drawn
    rcases hd2 with rfl|⟨e2,rfl⟩<;>simp[Builtin.append_,run_underlying ht,run_underlying ht2,sizeOf,typeInfo,hi,hs,hlen,hsrc0]
   ·simp[Builtin.append_,run_underlying ht,run_underlying ht2,sizeOf,typeInfo,hi,run_asInt,show IntKind.i64.wrap 0=0 from rfl]
  ·have n2:¬(9223372036854775807<(m:Int)):=by omega
   have n3:¬(281474976710656<Builtin.nextslicecap m 0*i.bytes):=by rw[nextslicecap_zero (by omega)];simp at hby;omega
   obtain ⟨g1,g2⟩:=grown 0
   simp only[Nat.zero_add,List.nil_append] at g1 g2 hgc ⊢
   refine ⟨_,_,et,?_,g1,g2 _,.inr rfl,⟨by simp,.inl ⟨rfl,rfl⟩⟩⟩
   have hold0:(Builtin.firstCells s 0 (.slice none 0 0)).run P w.drew= .ok #[] w.drew:=run_firstCells_none w.drew _ _ _ _
   rcases hS with ⟨hd2,hlen,hsrc⟩|⟨q,kx,rfl,rfl,rfl⟩
   ·have hsrcd:(Builtin.firstCells s m x).run P w.drew= .ok news.toArray w.drew:=hsrc (w.drawn+1)
    rcases hd2 with rfl|⟨e2,rfl⟩<;>simp[Builtin.append_,run_underlying ht,run_underlying ht2,sizeOf,typeInfo,hi,hs,hz,zeroValue,hlen,hsrcd,n2,n3,hm,Question.forced,newRow,hgc,hold0]
   ·have hm2:¬m*s=0:=by have:=Nat.mul_pos (show 0<m by omega) hs0;omega
    simp[Builtin.append_,run_underlying ht,run_underlying ht2,sizeOf,typeInfo,hi,hs,hz,zeroValue,run_asInt,z1,z2,z3,n2,n3,hm,hm2,Question.forced,newRow,hgc,hold0]
 ·by_cases hroom:n+m≤cap
  ·have hfit:n*s+news.length≤cur.size:=by rw[hln,hcs,←Nat.add_mul];exact Nat.mul_le_mul_right _ hroom
   have hst:=run_storeCells_at P g (n*s) et' news 0 cur w hg (by simpa using hfit) h1
   simp only[Nat.add_zero] at hst
   refine ⟨.slice (some ⟨g,0,none⟩) (n+m) cap,w.setRow g (cur.toList.take (n*s)++news++cur.toList.drop (n*s+news.length)).toArray,et',?_,⟨hll,.inr ⟨g,cap,_,rfl,hbg,setRow_heap w g cur _ et' _ hg,hroom,hcm,?_,?_⟩⟩,
    ⟨rfl,rfl,rfl,by simp,fun k _ hk=>setRow_other w g k _ (fun e=>hk (by simp[blkNo,e]))⟩,.inl rfl,⟨hlx,.inr ⟨g,cap,_,rfl,hbg,setRow_heap w g cur _ et' _ hg,hnc,hcm,?_,?_⟩⟩⟩
   ·rcases hS with ⟨hd2,hlen,hsrc⟩|⟨q,kx,rfl,rfl,rfl⟩
    ·have hsrc0:(Builtin.firstCells s m x).run P w= .ok news.toArray w:=hsrc w.drawn
     rcases hd2 with rfl|⟨e2,rfl⟩<;>simp[Builtin.append_,run_underlying ht,run_underlying ht2,sizeOf,typeInfo,hi,hs,hlen,hsrc0,hroom,addr_add,hst]
    ·by_cases hm:m=0
     ·subst hm
      have hst0:=hst
      simp[Builtin.zeroCells] at hst0
      simp[Builtin.append_,run_underlying ht,run_underlying ht2,sizeOf,typeInfo,hi,hs,run_asInt,show IntKind.i64.wrap 0=0 from rfl,show n≤cap by omega,addr_add,hst0,Builtin.zeroCells]
     ·have hm2:¬m*s=0:=by have:=Nat.mul_pos (show 0<m by omega) hs0;omega
      simp[Builtin.append_,run_underlying ht,run_underlying ht2,sizeOf,typeInfo,hi,hs,hz,zeroValue,run_asInt,z1,z2,z3,hm2,hroom,addr_add,hst]
   ·simp only[List.size_toArray,List.length_append,List.length_take,List.length_drop,Array.length_toList]
    omega
   ·rw[htake,←hll]
    exact List.take_left
   ·simp only[List.size_toArray,List.length_append,List.length_take,List.length_drop,Array.length_toList]
    omega
   ·have hle:n*s≤cur.toList.length:=by rw[Array.length_toList,hcs];exact Nat.mul_le_mul_right _ hnc
    rw[htake,List.append_assoc,←hlx]
    exact List.take_left
  ·have n2:¬(9223372036854775807<(n:Int)+(m:Int)):=by omega
   have n3:¬(281474976710656<Builtin.nextslicecap (n+m) cap*i.bytes):=by have:=growslice_fits (by omega:cap<n+m) hby;omega
   have holds:CellsAt w g 0 xs:=by
    rcases own_cells hown with ⟨h0,_,_⟩|⟨g',cap',h0,_,_,_,_,hc⟩
    ·cases h0
    ·injection h0 with h0
     injection h0 with h0
     injection h0 with h0
     subst h0
     exact hc
   have hold:(Builtin.firstCells s n (.slice (some ⟨g,0,none⟩) n cap)).run P w.drew= .ok xs.toArray w.drew:=
    run_firstCells_some (P:=P) w.drew s n ⟨g,0,none⟩ n cap xs hlx (fun j v hv=>by rw[addr_add];exact holds j v hv)
   obtain ⟨g1,g2⟩:=grown cap
   refine ⟨_,_,et,?_,g1,g2 _,.inr rfl,⟨hlx,.inr ⟨g,cap,cur,rfl,hbg,?_,hnc,hcm,hcs,htake⟩⟩⟩
   rotate_left
   ·rw[←hg]
    exact Below.heap_alloc w.drew _ g (Array.getElem?_eq_some_iff.1 hg).1
   rcases hS with ⟨hd2,hlen,hsrc⟩|⟨q,kx,rfl,rfl,rfl⟩
   ·have hsrcd:(Builtin.firstCells s m x).run P w.drew= .ok news.toArray w.drew:=hsrc (w.drawn+1)
    rcases hd2 with rfl|⟨e2,rfl⟩<;>simp[Builtin.append_,run_underlying ht,run_underlying ht2,sizeOf,typeInfo,hi,hs,hz,zeroValue,hlen,hsrcd,hroom,n2,n3,Question.forced,newRow,hgc,hold]
    all_goals (congr 2;apply Array.ext';simp)
   ·have hm2:¬m*s=0:=by have:=Nat.mul_pos (show 0<m by omega) hs0;omega
    simp[Builtin.append_,run_underlying ht,run_underlying ht2,sizeOf,typeInfo,hi,hs,hz,zeroValue,run_asInt,z1,z2,z3,hm2,hroom,n2,n3,Question.forced,newRow,hgc,hold]
end
section
variable {P:Program} {cfg:Cfg} {N0:Nat→Prop} {w0:Wb} {ρ:List C} {S:SS} {hv:Nat→Value} {a:Act} {w:World} {o:Oper} {Q:Exit→Act→World→Prop}
/-- The cells of a slice that is read, whatever it is. -/
theorem slice_cells (hrel:RelH P N0 w0 ρ S hv a w) {y:SX} {v:Value} {s:Sh} {m:E} {f:List Nat} (h:datOf S.rb [] y=some (.sl s,m,f)) (hx:RdX w (NN N0 w0.own ρ S.blks hv) ρ S.blks hv y v):
  ∃ad cap news,v= .slice ad (m.eval ρ).toList.length cap∧RdRow w (NN N0 w0.own ρ S.blks hv) s news (m.eval ρ).toList∧
   ((m.eval ρ).toList≠[]→∃b off,ad=some ⟨b,off,none⟩∧b<w.heap.size∧CellsAt w b off news):=by
 have hdat:=RdX_sl (datOf_sound hrel.rows (presTrue_nil ρ) h hx)
 obtain ⟨ad,cap,h1,h2,h3,h4⟩:=hdat
 simp only[List.cons.injEq,and_true] at h1
 unfold datOf at h
 split at h
 ·rename_i s1 e1
  simp at h
  obtain ⟨rfl,rfl,rfl⟩:=h
  obtain ⟨ad,cap,g1,g2,g3,g4⟩:=RdX_sl hx
  simp only[List.cons.injEq,and_true] at g1
  by_cases hne:(e1.eval ρ).toList=[]
  ·exact ⟨ad,cap,[],g1,by rw[hne];rfl,fun h=>absurd hne h⟩
  ·obtain ⟨b,off,rfl,hb,hlt,hra⟩:=g4 hne
   obtain ⟨xs,hxs,hc⟩:=hra.row
   exact ⟨_,cap,xs,g1,hxs,fun _=>⟨b,off,rfl,hlt,hc⟩⟩
 ·rename_i r n
  split at h
  ·rename_i s' e' hr
   simp at h
   obtain ⟨rfl,rfl,rfl⟩:=h
   obtain ⟨p,hin,hpp⟩:=rowOf_in (presTrue_nil ρ) hr
   obtain ⟨et,xs,hown,hrd,_⟩:=hrel.rows.row r _ _ p hin hpp
   obtain ⟨hv1,_⟩:=hx.2 _ _ p hin hpp
   rw[eval_noNil] at*
   refine ⟨ad,cap,xs,h1,hrd,fun hne=>?_⟩
   rcases own_cells hown with ⟨_,h6,_⟩|⟨g,cap',h5,_,_,hlt,_,hc⟩
   ·exact absurd (List.eq_nil_of_length_eq_zero h6) hne
   ·rw[hv1,h5] at h1
    injection h1 with h1
    exact ⟨g,0,h1.symm,hlt,hc⟩
  ·simp at h
 ·rename_i r off n
  split at h
  ·rename_i s' e' hr
   simp at h
   obtain ⟨rfl,rfl,rfl⟩:=h
   obtain ⟨p,hin,hpp⟩:=rowOf_in (presTrue_nil ρ) hr
   obtain ⟨et,xs,hown,hrd,_⟩:=hrel.rows.row r _ _ p hin hpp
   obtain ⟨o1,m1,ho,hm,hle,a1,c1,hv1,_,_,ha⟩:=hx.2 _ _ p hin hpp
   have hev:((E.sub e' off (.raw .add off n)).eval ρ).toList=((e'.eval ρ).toList.take (o1+m1)).drop o1:=by
    simp only[E.eval,rawArith,C.toList_ls,C.toInt_int,ho,hm]
    congr 2
   refine ⟨ad,cap,(xs.take ((o1+m1)*s'.size)).drop (o1*s'.size),h1,by rw[hev];exact (hrd.take (o1+m1)).drop o1,fun hne=>?_⟩
   rw[hev] at hne
   have hm0:0<m1:=by
    rcases Nat.eq_zero_or_pos m1 with h0|h0
    ·subst h0;exact absurd (List.eq_nil_of_length_eq_zero (by simp)) hne
    ·exact h0
   obtain ⟨g,hg,rfl⟩:=ha hm0
   rw[hv1] at h1
   injection h1 with h1 _ _
   rcases own_cells hown with ⟨h5,_,_⟩|⟨g',cap',h5,_,_,hlt,_,hc⟩
   ·rw[h5] at hg;cases hg
   ·rw[h5] at hg
    injection hg with hg
    subst hg
    refine ⟨g',o1*s'.size,h1.symm,hlt,fun j u hu=>?_⟩
    rw[List.getElem?_drop,List.getElem?_take] at hu
    split at hu
    ·have:=hc _ u hu
     simpa using this
    ·cases hu
  ·simp at h
 ·simp at h
 ·split at h<;>simp at h
 ·simp at h
/-- What is appended or copied: its cells, and how the model gets them. -/
theorem srcX_sound (hrel:RelH P N0 w0 ρ S hv a w) {t:TypeId} {x:Operand} {y:SX} {s:Sh} {m:E} {f:List Nat} (h:srcX P S.blks t y=some (s,m,f)) (hx:RdX w (NN N0 w0.own ρ S.blks hv) ρ S.blks hv y (a.eval x)):
  ∃d2 news,P.underlying t=some d2∧(d2= .string∨∃e2,d2= .slice e2)∧
   RdRow w (NN N0 w0.own ρ S.blks hv) s news (m.eval ρ).toList∧(∀w',(Builtin.lenOf (a.eval x)).run P w'= .ok (m.eval ρ).toList.length w')∧
   ∀(w':World) k,(∀b,b<w.heap.size→w'.heap[b]?=w.heap[b]?)→k≤(m.eval ρ).toList.length→(Builtin.firstCells s.size k (a.eval x)).run P w'= .ok (news.take (k*s.size)).toArray w':=by
 unfold srcX at h
 split at h
 ·rename_i e ht
  simp at h
  obtain ⟨rfl,rfl,rfl⟩:=h
  rw[RdX_str] at hx
  have hsz:ByteArray.size ⟨(e.eval ρ).toStr.toArray⟩=(e.eval ρ).toStr.length:=by show (e.eval ρ).toStr.toArray.size=_;simp
  refine ⟨.string,(e.eval ρ).toStr.map fun b=> .int .u8 b.toNat,ht,.inl rfl,?_,fun w'=>?_,fun w' k _ hk=>?_⟩
  ·rw[RdRow_int]
   simp[E.eval,ofBytes,Function.comp_def]
  ·rw[hx]
   simp[Builtin.lenOf,hsz,E.eval,ofBytes]
  ·rw[hx]
   have he:=extract_list (e.eval ρ).toStr 0 k
   simp only[List.drop_zero] at he
   simp[Builtin.firstCells,he,Sh.size,List.map_take]
 ·rename_i ys e2 ht
  split at h
  ·rename_i s' e f' hd
   simp at h
   obtain ⟨rfl,rfl,rfl⟩:=h
   obtain ⟨ad,cap,news,h1,h2,h3⟩:=slice_cells hrel hd hx
   rw[h1]
   have hlen:∀w',(Builtin.lenOf (.slice ad (e.eval ρ).toList.length cap)).run P w'= .ok (e.eval ρ).toList.length w':=fun w'=>by simp[Builtin.lenOf]
   refine ⟨_,news,ht,.inr ⟨_,rfl⟩,h2,hlen,fun w' k hw hk=>?_⟩
   by_cases hne:(e.eval ρ).toList=[]
   ·rw[hne] at hk
    have hk0:k=0:=by simpa using hk
    subst hk0
    cases ad with
    |none=>simp[Builtin.firstCells]
    |some ad=>simp[Builtin.firstCells,loadCells,loadCellsFrom]
   ·obtain ⟨b,off,rfl,hlt,hc⟩:=h3 hne
    have hle:k*s'.size≤news.length:=by rw[h2.length];exact Nat.mul_le_mul_right _ hk
    have hl:(news.take (k*s'.size)).length=k*s'.size:=by simp;omega
    refine run_firstCells_some (P:=P) w' s'.size k ⟨b,off,none⟩ _ cap _ hl fun j v hv=>?_
    rw[addr_add,World.cell?_of_block (w:=w) (a:=⟨b,off+j,none⟩) (hw b hlt)]
    rw[List.getElem?_take] at hv
    split at hv
    ·exact hc j v hv
    ·cases hv
  ·simp at h
 ·simp at h
/-- What is appended: its cells, and how the model gets them. -/
theorem srcA_sound (hrel:RelH P N0 w0 ρ S hv a w) {et t:TypeId} {x:Operand} {y:SX} {s:Sh} {m:E} {f:List Nat} (h:srcA P S.blks et t y=some (s,m,f)) (hx:RdX w (NN N0 w0.own ρ S.blks hv) ρ S.blks hv y (a.eval x))
  {i:TypeInfo} {z:Value} (hi:P.info? et=some i) (hz:i.zero=some z) (hs0:0<s.size):
  ∃d2 news,P.underlying t=some d2∧RdRow w (NN N0 w0.own ρ S.blks hv) s news (m.eval ρ).toList∧((m.eval ρ).toList.length≤140737488355328→SrcRun P w d2 (a.eval x) s.size (m.eval ρ).toList.length z news):=by
 unfold srcA at h
 split at h
 ·rename_i kx e q ht
  split at h
  ·rename_i s' hs'
   split at h
   ·rename_i ze hze
    simp only[Option.some.injEq,Prod.mk.injEq] at h
    obtain ⟨rfl,rfl,rfl⟩:=h
    obtain ⟨i',z',hi',hz',hr,_⟩:=zeroE_sound (w:=w) (N:=NN N0 w0.own ρ S.blks hv) (ρ:=ρ) hze
    rw[hi] at hi'
    injection hi' with hi'
    subst hi'
    rw[hz] at hz'
    injection hz' with hz'
    subst hz'
    obtain ⟨vs,e1,e2,_⟩:=hx
    simp only[Rd] at e1
    subst e1
    have hl:z.cells.size=s'.size:=by have:=hr.length;simpa using this
    obtain ⟨n,hn,hbad⟩:∃n:Nat,((E.rep (.ite (.cmp .geq e (.int 0)) e (.int 1152921504606846976)) ze).eval ρ).toList=List.replicate n (ze.eval ρ)∧(n≤140737488355328→(n:Int)=(e.eval ρ).toInt):=by
     refine ⟨(if cmpI .geq (e.eval ρ).toInt 0=true then e.eval ρ else .int 1152921504606846976).toInt.toNat,rfl,fun hb=>?_⟩
     by_cases hp:cmpI .geq (e.eval ρ).toInt 0=true
     ·rw[if_pos hp]
      have:(e.eval ρ).toInt≥0:=of_decide_eq_true hp
      omega
     ·rw[if_neg hp,C.toInt_int] at hb
      exact absurd hb (by decide)
    rw[hn]
    refine ⟨_,(Builtin.zeroCells z.cells n).toList,ht,?_,fun hb=> .inr ⟨q,kx,rfl,?_,by rw[List.length_replicate]⟩⟩
    ·have:=zero_madeCells hr hs0 n
     simpa [Builtin.zeroCells,hl] using this
    ·rw[List.length_replicate] at hb ⊢
     rw[e2,hbad hb]
     rfl
   ·simp at h
  ·simp at h
 ·obtain ⟨d2,news,q1,q2,q3,q4,q5⟩:=srcX_sound hrel h hx
  have htk:news.take ((m.eval ρ).toList.length*s.size)=news:=List.take_of_length_le (by rw[q3.length];omega)
  refine ⟨d2,news,q1,q3,fun _=> .inl ⟨q2,q4,fun k=>?_⟩⟩
  have:=q5 {w with drawn:=k} (m.eval ρ).toList.length (fun _ _=>rfl) (Nat.le_refl _)
  rwa[htk] at this
theorem RdRow_one {N:Nat→Prop} {s:Sh}:∀ {l:List C} {xs:List Value},RdRow w N s xs l→∀u∈xs,u.oneCell'=true
 | [],_,h=>by simp only[RdRow] at h;subst h;simp
 |_::_,_,⟨u,r,h1,h2,h3⟩=>by
  subst h1
  intro x hx
  rcases List.mem_append.1 hx with hx|hx
  ·exact (Rd_one h2 x hx).1
  ·exact RdRow_one h3 x hx
theorem isFree_blk {bs:List Blk} {d:Nat} (h:isFree bs d=true):∃k,bs[d]?=some k∧k.lb= .none:=by
 unfold isFree at h
 split at h
 ·rename_i f p hb;exact ⟨_,hb,rfl⟩
 ·cases h
/-- A row has grown: it lies in its block, or in a new one; whoever held it holds it no more. -/
theorem RelH.grows (h:RelH P N0 w0 ρ S hv a w) {r d:Nat} {s:Sh} {e:E} (hr:S.blks[r]?=some ⟨.row s e,false,[]⟩) (hd:∃k,S.blks[d]?=some k∧k.lb= .none) {v':Value} {w':World} {lb:LB} (hl:liveB ⟨lb,false,[]⟩=true)
  (hg:w.grownBy w' (blkNo (hv r))) (hvg:∀g,blkNo v'=some g→blkNo (hv r)=some g∨w.heap.size≤g)
  (hok:(∀b,NN N0 w0.own ρ S.blks hv b→b<w.heap.size→w'.heap[b]?=w.heap[b]?∧NN N0 w0.own ρ ((S.blks.set r ⟨.dead,false,[]⟩).set d ⟨lb,false,[]⟩) (upd hv d v') b)→
   BlkOk w' w0.own (NN N0 w0.own ρ ((S.blks.set r ⟨.dead,false,[]⟩).set d ⟨lb,false,[]⟩) (upd hv d v')) ρ ((S.blks.set r ⟨.dead,false,[]⟩).set d ⟨lb,false,[]⟩) (upd hv d v') d lb):
  RelH P N0 w0 ρ {S with blks:=(S.blks.set r ⟨.dead,false,[]⟩).set d ⟨lb,false,[]⟩} (upd hv d v') a w':=by
 have hrl:r<S.blks.length:=(List.getElem?_eq_some_iff.1 hr).1
 obtain ⟨k0,hk0,hn0⟩:=hd
 have hdl:d<S.blks.length:=(List.getElem?_eq_some_iff.1 hk0).1
 have hrd:r≠d:=by rintro rfl;rw[hr] at hk0;injection hk0 with hk0;subst hk0;cases hn0
 have at_d:((S.blks.set r ⟨.dead,false,[]⟩).set d ⟨lb,false,[]⟩)[d]?=some ⟨lb,false,[]⟩:=List.getElem?_set_self (by simpa using hdl)
 have at_r:((S.blks.set r ⟨.dead,false,[]⟩).set d ⟨lb,false,[]⟩)[r]?=some ⟨.dead,false,[]⟩:=by rw[List.getElem?_set_ne hrd.symm];exact List.getElem?_set_self hrl
 have at_q:∀q,q≠r→q≠d→((S.blks.set r ⟨.dead,false,[]⟩).set d ⟨lb,false,[]⟩)[q]?=S.blks[q]?:=fun q h1 h2=>by rw[List.getElem?_set_ne h2.symm,List.getElem?_set_ne h1.symm]
 have hkk:∀b,NN N0 w0.own ρ S.blks hv b→b<w.heap.size→w'.heap[b]?=w.heap[b]?∧NN N0 w0.own ρ ((S.blks.set r ⟨.dead,false,[]⟩).set d ⟨lb,false,[]⟩) (upd hv d v') b:=by
  intro b hb' hlt
  have hbr:=hb'.2 r _ hr rfl rfl (presTrue_nil ρ)
  refine ⟨hg.block b hlt (fun e=>hbr e.symm),hb'.1,fun q k hq hlk hf hp=>?_⟩
  by_cases hqd:q=d
  ·subst hqd
   simp only[upd,if_true]
   intro hc
   rcases hvg b hc with h1|h1
   ·exact hbr h1
   ·omega
  ·simp only[upd,if_neg hqd]
   by_cases hqr:q=r
   ·subst hqr
    rw[at_r] at hq
    simp only[Option.some.injEq] at hq
    subst hq
    simp[liveB] at hlk
   ·rw[at_q q hqr hqd] at hq
    exact hb'.2 q k hq hlk hf hp
 have hne:∀q,known S.blks q→q≠d:=by
  rintro q ⟨k,h1,h2⟩ rfl
  rw[hk0] at h1
  injection h1 with h1
  subst h1
  exact h2 hn0
 have hle:BsLe ρ S.blks ((S.blks.set r ⟨.dead,false,[]⟩).set d ⟨lb,false,[]⟩) hv (upd hv d v'):=by
  refine ⟨fun q hq=>⟨?_,by simp[upd,hne q hq]⟩,fun q s' e' p hq h'=>?_,fun q cs p hq h'=>?_⟩
  ·by_cases hqr:q=r
   ·subst hqr;exact ⟨_,at_r,by simp⟩
   ·obtain ⟨k,h1,h2⟩:=hq
    exact ⟨k,by rw[at_q q hqr (hne q ⟨k,h1,h2⟩)];exact h1,h2⟩
  ·by_cases hqr:q=r
   ·subst hqr;simp[rowIn,at_r] at h'
   ·refine ⟨e',?_,rfl⟩
    unfold rowIn at h' ⊢
    rwa[at_q q hqr (hne q hq)] at h'
  ·by_cases hqr:q=r
   ·subst hqr;simp[boxIn,at_r] at h'
   ·refine ⟨cs,?_⟩
    unfold boxIn at h' ⊢
    rwa[at_q q hqr (hne q hq)] at h'
 have hbel:BelowG P w0 w':=h.below.after hg.os hg.tape hg.output hg.size fun k hk hn=>hg.block k hk fun e=>hn (h.lt hr rfl (presTrue_nil ρ) e.symm).2
 refine h.step hle hbel hg.size hkk ?_ ?_
 ·intro q k hq hp
  by_cases hqd:q=d
  ·subst hqd
   rw[at_d] at hq
   injection hq with hq
   subst hq
   exact hok hkk
  ·by_cases hqr:q=r
   ·subst hqr
    rw[at_r] at hq
    injection hq with hq
    subst hq
    trivial
   ·rw[at_q q hqr hqd] at hq
    by_cases hlk:liveB k=true
    ·refine (h.blks q k hq hp).le hg.size hkk hle (by simp[upd,hqd]) fun g' hg'=>hg.block g' (h.lt hq hlk hp hg').1 fun e=>?_
     exact h.dist r q _ k g' hr hq (fun e=>hqr e.symm) rfl hlk (presTrue_nil ρ) hp e.symm hg'
    ·obtain ⟨lb2,f2,p2⟩:=k
     cases lb2 with
     |none=>trivial
     |dead=>trivial
     |row s e=>exact absurd rfl hlk
     |box cs=>exact absurd rfl hlk
     |mp _ _ _=>exact absurd rfl hlk
     |sit _ _=>exact absurd rfl hlk
 ·have one:∀q k g',((S.blks.set r ⟨.dead,false,[]⟩).set d ⟨lb,false,[]⟩)[q]?=some k→q≠d→liveB k=true→presTrue ρ k.pres→blkNo (hv q)=some g'→q≠r∧S.blks[q]?=some k:=by
   intro q k g' hq hqd hlk hp hgq
   have hqr:q≠r:=by
    rintro rfl
    rw[at_r] at hq
    injection hq with hq
    subst hq
    cases hlk
   exact ⟨hqr,by rw[at_q q hqr hqd] at hq;exact hq⟩
  have vs:∀q k g',q≠r→S.blks[q]?=some k→liveB k=true→presTrue ρ k.pres→blkNo (hv q)=some g'→blkNo v'≠some g':=by
   intro q k g' hqr hq hlk hp hgq hc
   rcases hvg g' hc with h1|h1
   ·exact h.dist r q _ k g' hr hq (fun e=>hqr e.symm) rfl hlk (presTrue_nil ρ) hp h1 hgq
   ·have:=(h.lt hq hlk hp hgq).1;omega
  intro q1 q2 k1 k2 g' hq1 hq2 hne12 hl1 hl2 hp1 hp2 hg1 hg2
  by_cases h1:q1=d
  ·subst h1
   simp only[upd,if_true,if_neg hne12.symm] at hg1 hg2
   obtain ⟨b1,b2⟩:=one q2 k2 g' hq2 hne12.symm hl2 hp2 hg2
   exact vs q2 k2 g' b1 b2 hl2 hp2 hg2 hg1
  ·simp only[upd,if_neg h1] at hg1
   obtain ⟨a1,a2⟩:=one q1 k1 g' hq1 h1 hl1 hp1 hg1
   by_cases h2:q2=d
   ·subst h2
    simp only[upd,if_true] at hg2
    exact vs q1 k1 g' a1 a2 hl1 hp1 hg1 hg2
   ·simp only[upd,if_neg h2] at hg2
    obtain ⟨b1,b2⟩:=one q2 k2 g' hq2 h2 hl2 hp2 hg2
    exact h.dist q1 q2 k1 k2 g' a2 b2 hne12 hl1 hl2 hp1 hp2 hg1 hg2
theorem ownRow_blk {bs:List Blk} {r:Nat} {s:Sh} {e:E} (h:ownRow bs r=some (s,e)):bs[r]?=some ⟨.row s e,false,[]⟩:=by
 unfold ownRow at h
 split at h
 ·rename_i hb
  simp at h
  obtain ⟨rfl,rfl⟩:=h
  exact hb
 ·simp at h
theorem fin_w {x:SX} {v:Value} {w':World} {hv':Nat→Value} {bs':List Blk} (hr:(execOp a.eval o).run P w= .ok (.value v) w') (hrel:RelH P N0 w0 ρ {S with blks:=bs'} hv' a w')
  (hx:RdX w' (NN N0 w0.own ρ bs' hv') ρ bs' hv' x v):
  o.wp P a w (fun a' w'=>∃hv',RelH P N0 w0 ρ {S with tmps:=putT S.tmps o.dst ⟨[],x⟩,blks:=bs'} hv' a' w') Q:=by
 unfold Oper.wp
 rw[hr]
 exact ⟨hv',hrel.put o.dst [] x v (fun _=>hx) (fun h=>absurd (presTrue_nil ρ) h)⟩
theorem exec_builtin {b:Builtin} {args:Array Operand} {ts:Array TypeId} (hop:o.op= .call {callee:= .builtin b,args:=args,argTypes:=ts}) {m:Sem Value}
  (hm:∀consts,builtin b ts o.type consts (args.map a.eval)=(do pure (.value (←m)))) {v:Value} {w':World} (hv:m.run P w= .ok v w'):(execOp a.eval o).run P w= .ok (.value v) w':=by
 simp only[execOp,hop,resolve,invoke]
 simp only[Sem.run_bind,Sem.run_pure,Result.andThen_ok,hm,hv]
/-- A row of one's own, read as data. -/
theorem rd_own {N B:Nat→Prop} {et:TypeId} {s:Sh} {v:Value} {c:C} {xs:List Value} (hown:w.ownsR B et s.size v c.toList.length xs) (hr:RdRow w N s xs c.toList) (hN:∀g,blkNo v=some g→N g):Rd w N (.sl s) [v] c:=by
 rcases own_cells hown with ⟨h0,h1,h2⟩|⟨g,cap,h0,h1,h2,h3,h4,hc⟩
 ·subst h0
  refine ⟨none,0,?_,by omega,Nat.zero_le _,fun hne=>absurd (List.eq_nil_of_length_eq_zero (by omega)) hne⟩
  have:c.toList.length=0:=by omega
  rw[this]
 ·subst h0
  refine ⟨some ⟨g,0,none⟩,cap,rfl,by omega,by omega,fun _=>⟨g,0,rfl,hN g rfl,by assumption,RowAt.of_row hr hc⟩⟩
/-- A row is left as it was; what is behind it is read as data from now on. -/
theorem RelH.keeps (h:RelH P N0 w0 ρ S hv a w) {r:Nat} {s:Sh} {e:E} (hr:S.blks[r]?=some ⟨.row s e,false,[]⟩) {w':World} (hg:w.grownBy w' (blkNo (hv r)))
  (hok:(∀b,NN N0 w0.own ρ S.blks hv b→b<w.heap.size→w'.heap[b]?=w.heap[b]?∧NN N0 w0.own ρ (S.blks.set r ⟨.row s e,true,[]⟩) hv b)→
   BlkOk w' w0.own (NN N0 w0.own ρ (S.blks.set r ⟨.row s e,true,[]⟩) hv) ρ (S.blks.set r ⟨.row s e,true,[]⟩) hv r (.row s e)):
  RelH P N0 w0 ρ {S with blks:=S.blks.set r ⟨.row s e,true,[]⟩} hv a w'∧∀b,NN N0 w0.own ρ S.blks hv b→b<w.heap.size→w'.heap[b]?=w.heap[b]?∧NN N0 w0.own ρ (S.blks.set r ⟨.row s e,true,[]⟩) hv b:=by
 have hrl:r<S.blks.length:=(List.getElem?_eq_some_iff.1 hr).1
 have at_r:(S.blks.set r ⟨.row s e,true,[]⟩)[r]?=some ⟨.row s e,true,[]⟩:=List.getElem?_set_self hrl
 have at_q:∀q,q≠r→(S.blks.set r ⟨.row s e,true,[]⟩)[q]?=S.blks[q]?:=fun q h1=>List.getElem?_set_ne h1.symm
 have hkk:∀b,NN N0 w0.own ρ S.blks hv b→b<w.heap.size→w'.heap[b]?=w.heap[b]?∧NN N0 w0.own ρ (S.blks.set r ⟨.row s e,true,[]⟩) hv b:=by
  intro b hb' hlt
  have hbr:=hb'.2 r _ hr rfl rfl (presTrue_nil ρ)
  refine ⟨hg.block b hlt (fun e=>hbr e.symm),hb'.1,fun q k hq hlk hf hp=>?_⟩
  by_cases hqr:q=r
  ·subst hqr
   exact hbr
  ·rw[at_q q hqr] at hq
   exact hb'.2 q k hq hlk hf hp
 have hle:BsLe ρ S.blks (S.blks.set r ⟨.row s e,true,[]⟩) hv hv:=by
  refine ⟨fun q hq=>⟨?_,rfl⟩,fun q s' e' p hq h'=>⟨e',?_,rfl⟩,fun q cs p hq h'=>⟨cs,?_⟩⟩
  ·by_cases hqr:q=r
   ·subst hqr;exact ⟨_,at_r,by simp⟩
   ·obtain ⟨k,h1,h2⟩:=hq
    exact ⟨k,by rw[at_q q hqr];exact h1,h2⟩
  ·by_cases hqr:q=r
   ·subst hqr
    simp only[rowIn,at_r,hr] at h' ⊢
    exact h'
   ·unfold rowIn at h' ⊢
    rwa[at_q q hqr] at h'
  ·by_cases hqr:q=r
   ·subst hqr
    simp[boxIn,at_r] at h'
   ·unfold boxIn at h' ⊢
    rwa[at_q q hqr] at h'
 have hbel:BelowG P w0 w':=h.below.after hg.os hg.tape hg.output hg.size fun k hk hn=>hg.block k hk fun e=>hn (h.lt hr rfl (presTrue_nil ρ) e.symm).2
 refine ⟨h.step hle hbel hg.size hkk ?_ ?_,hkk⟩
 ·intro q k hq hp
  by_cases hqr:q=r
  ·subst hqr
   rw[at_r] at hq
   injection hq with hq
   subst hq
   exact hok hkk
  ·rw[at_q q hqr] at hq
   by_cases hlk:liveB k=true
   ·refine (h.blks q k hq hp).le hg.size hkk hle rfl fun g' hg'=>hg.block g' (h.lt hq hlk hp hg').1 fun e=>?_
    exact h.dist r q _ k g' hr hq (fun e=>hqr e.symm) rfl hlk (presTrue_nil ρ) hp e.symm hg'
   ·obtain ⟨lb2,f2,p2⟩:=k
    cases lb2 with
    |none=>trivial
    |dead=>trivial
    |row s e=>exact absurd rfl hlk
    |box cs=>exact absurd rfl hlk
    |mp _ _ _=>exact absurd rfl hlk
    |sit _ _=>exact absurd rfl hlk
 ·have back:∀(q:Nat) (k:Blk),(S.blks.set r ⟨.row s e,true,[]⟩)[q]?=some k→∃k0,S.blks[q]?=some k0∧liveB k=liveB k0∧k.pres=k0.pres:=by
   intro q k hq
   by_cases hqr:q=r
   ·subst hqr
    rw[at_r] at hq
    injection hq with hq
    subst hq
    exact ⟨_,hr,rfl,rfl⟩
   ·rw[at_q q hqr] at hq
    exact ⟨k,hq,rfl,rfl⟩
  intro q1 q2 k1 k2 g' hq1 hq2 hne hl1 hl2 hp1 hp2
  obtain ⟨k1',a1,a2,a3⟩:=back q1 k1 hq1
  obtain ⟨k2',b1,b2,b3⟩:=back q2 k2 hq2
  rw[a2] at hl1
  rw[b2] at hl2
  rw[a3] at hp1
  rw[b3] at hp2
  exact h.dist q1 q2 k1' k2' g' a1 b1 hne hl1 hl2 hp1 hp2
theorem appendX_sound (hrel:RelH P N0 w0 ρ S hv a w) {keep:Bool} {ts:Array TypeId} {x y:Operand} {d:Nat} (hop:o.op= .call {callee:= .builtin .append,args:= #[x,y],argTypes:=ts}) {sx:SX} {bs':List Blk} {obs:List Ob}
  (h:appendX P keep S.blks ts d (S.ev P [] x (ts.getD 0 0)) (S.ev P [] y (ts.getD 1 0))=some (sx,bs',obs)) (ho:obsHold P ρ S.nv obs):
  o.wp P a w (fun a' w'=>∃hv',RelH P N0 w0 ρ {S with tmps:=putT S.tmps o.dst ⟨[],sx⟩,blks:=bs'} hv' a' w') Q:=by
 unfold appendX at h
 split at h
 ·rename_i et sa sb ht hsa hsb
  split at h
  ·simp at h
  ·rename_i s m f hsrc
   split at h
   ·rename_i hok
    simp only[Bool.and_eq_true,decide_eq_true_eq] at hok
    obtain ⟨⟨⟨⟨hts,hz⟩,hfit⟩,hs0⟩,hb0⟩:=hok
    have hs0:0<s.size:=by simp at hs0;omega
    have hb0:0<P.bytesOf et:=by simp at hb0;omega
    obtain ⟨t0,t1,rfl⟩:∃t0 t1,ts= #[t0,t1]:=by
     obtain ⟨tl⟩:=ts
     match tl,hts with
     | [t0,t1],_=>exact ⟨t0,t1,rfl⟩
    obtain ⟨ze,hz⟩:=Option.isSome_iff_exists.1 hz
    obtain ⟨i,z,hi,hz1,hz2,_⟩:=zeroE_sound (w:=w) (N:=NN N0 w0.own ρ S.blks hv) (ρ:=ρ) hz
    have hzs:z.cells.size=s.size:=by have:=hz2.length;simpa using this
    obtain ⟨i',d',hi',hsz,_,_⟩:=fitsT_spec hfit
    rw[hi] at hi'
    injection hi' with hi'
    subst hi'
    obtain ⟨d2,news,q1,q3,q4⟩:=srcA_sound hrel hsrc (ev_sound hrel (presTrue_nil ρ) hsb) hi hz1 hs0
    have hby:P.bytesOf et=i.bytes:=by simp[Program.bytesOf,hi]
    have hB:w0.own w.heap.size:= .inl hrel.below.size
    have law:∀ {n:Nat} {et':TypeId} {v:Value} {xs:List Value},w.ownsR w0.own et' s.size v n xs→(n+(m.eval ρ).toList.length)*i.bytes≤140737488355328→
      ∃v' w' et2,(Builtin.append_ #[t0,t1] o.type #[v,a.eval y]).run P w= .ok v' w'∧w'.ownsR w0.own et2 s.size v' (n+(m.eval ρ).toList.length) (xs++news)∧w.grownBy w' (blkNo v)∧(blkNo v'=blkNo v∨blkNo v'=some w.heap.size)∧w'.ownsR w0.own et' s.size v n xs:=by
     intro n et' v xs hown hbytes
     rw[hby] at hb0
     have hle:n+(m.eval ρ).toList.length≤140737488355328:=Nat.le_trans (Nat.le_mul_of_pos_right _ hb0) hbytes
     exact run_append_row (elemT_spec ht) q1 hi hz1 hsz hzs hs0 hown (q4 (by omega)) q3.length (RdRow_one q3) (by simp only[maxLen];omega) hbytes hB
    have exec:∀ {v':Value} {w':World},(Builtin.append_ #[t0,t1] o.type #[a.eval x,a.eval y]).run P w= .ok v' w'→(execOp a.eval o).run P w= .ok (.value v') w':=
     fun hr=>exec_builtin hop (fun _=>by simp[builtin]) hr
    split at h
    ·rename_i s'
     split at h
     ·rename_i hok2
      simp only[Bool.and_eq_true,decide_eq_true_eq] at hok2
      obtain ⟨rfl,hfree⟩:=hok2
      simp only[Option.some.injEq,Prod.mk.injEq] at h
      obtain ⟨rfl,rfl,rfl⟩:=h
      obtain ⟨vs,e1,e2,e3⟩:=ev_sound hrel (presTrue_nil ρ) hsa
      simp only[Exact] at e3
      subst e3
      have hv0:a.eval x= .slice none 0 0:=by rw[e2];simp[Sh.mk,Sh.isAgg]
      have h0:=ho.1 (presTrue_nil ρ)
      simp only[E.eval,cmpI,rawArith,C.toBool_bool,C.toInt_int] at h0
      have h0:=of_decide_eq_true h0
      rw[hby] at h0
      have hbytes:(0+(m.eval ρ).toList.length)*i.bytes≤140737488355328:=by
       rw[Nat.zero_add]
       have:(((m.eval ρ).toList.length*i.bytes:Nat):Int)≤140737488355328:=by rw[Int.natCast_mul];exact h0
       omega
      obtain ⟨v',w',et2,r1,r2,r3,r4,_⟩:=law (v:= .slice none 0 0) (et':=et) (n:=0) (xs:=[]) ⟨by simp,.inl ⟨rfl,rfl⟩⟩ hbytes
      simp only[Nat.zero_add,List.nil_append] at r2
      have hbel:Below w.heap.size w w':=⟨r3.os,r3.tape,r3.output,r3.size,fun k hk=>r3.block k hk (by simp[blkNo])⟩
      have hnew:=isFree_blk hfree
      have hdl:d<S.blks.length:=by obtain ⟨k,hk,_⟩:=hnew;exact (List.getElem?_eq_some_iff.1 hk).1
      have hbn:∀g,blkNo v'=some g→w.heap.size≤g:=by
       intro g hg
       rcases r4 with r4|r4
       ·rw[r4] at hg;simp[blkNo] at hg
       ·rw[r4] at hg;injection hg with hg;omega
      refine fin_w (v:=v') (w':=w') (exec (by rw[hv0];exact r1)) (hrel.new hnew (.row s m) [] v' hbel hbn fun _=>?_).1 ⟨⟨⟨.row s m,false,[]⟩,by simp[hdl],by simp⟩,fun s2 e2 p hin _=>?_⟩
      ·refine ⟨et2,news,by simpa [upd] using r2,q3.mono hbel.size ?_,hs0⟩
       intro b hb hlt
       refine ⟨hbel.block b hlt,hb.1,fun r k hr hl hf hp=>?_⟩
       by_cases hrd:r=d
       ·subst hrd
        simp only[upd,if_true]
        intro hc
        have:=hbn b hc
        omega
       ·rw[List.getElem?_set_ne (fun e=>hrd e.symm)] at hr
        simp only[upd,if_neg hrd]
        exact hb.2 r k hr hl hf hp
      ·simp[rowIn,hdl] at hin
       obtain ⟨rfl,rfl,rfl⟩:=hin
       exact ⟨by simp[upd],by rw[eval_lenE];rfl⟩
     ·simp at h
    ·rename_i r n
     split at h
     ·rename_i s' e hor
      split at h
      ·split at h
       ·rename_i hok2
        simp only[Bool.and_eq_true,decide_eq_true_eq] at hok2
        obtain ⟨rfl,_⟩:=hok2
        simp only[Option.some.injEq,Prod.mk.injEq] at h
        obtain ⟨rfl,rfl,rfl⟩:=h
        have hr:=ownRow_blk hor
        have hin0:rowIn S.blks r=some (s,e,[]):=by simp[rowIn,hr]
        obtain ⟨hv0,hn⟩:=(ev_sound hrel (presTrue_nil ρ) hsa).2 s e [] hin0 (presTrue_nil ρ)
        obtain ⟨et',xs,hown,hrd,_⟩:=hrel.rows.row r s e [] hin0 (presTrue_nil ρ)
        have h0:=ho.1 (presTrue_nil ρ)
        simp only[E.eval,cmpI,rawArith,C.toBool_bool,C.toInt_int] at h0
        have h0:=of_decide_eq_true h0
        rw[hby,hn] at h0
        have hbytes:((e.eval ρ).toList.length+(m.eval ρ).toList.length)*i.bytes≤140737488355328:=by
         have:((((e.eval ρ).toList.length+(m.eval ρ).toList.length)*i.bytes:Nat):Int)≤140737488355328:=by rw[Int.natCast_mul,Int.natCast_add];exact h0
         omega
        obtain ⟨v',w',et2,r1,r2,r3,r4,r5⟩:=law hown hbytes
        have hevl:((E.app e m).eval ρ).toList=(e.eval ρ).toList++(m.eval ρ).toList:=by simp[E.eval]
        obtain ⟨k1,k2⟩:=hrel.keeps hr r3 fun hkk=>⟨et',xs,r5,hrd.mono r3.size hkk,hs0⟩
        refine fin_w (v:=v') (w':=w') (exec (by rw[hv0];exact r1)) k1 (RdX_of ⟨[v'],?_,by simp[Sh.mk,Sh.isAgg]⟩ (Exact_leaf (by simp) (by simp)))
        have hrow:RdRow w' (NN N0 w0.own ρ (S.blks.set r ⟨.row s e,true,[]⟩) hv) s (xs++news) ((E.app e m).eval ρ).toList:=by
         rw[hevl]
         exact (hrd.append q3).mono r3.size k2
        have r2':w'.ownsR w0.own et2 s.size v' ((E.app e m).eval ρ).toList.length (xs++news):=by rw[hevl,List.length_append];exact r2
        refine rd_own r2' hrow fun g hg=>⟨.inr ?_,fun q k hq hlk hf hp hc=>?_⟩
        ·rcases r2'.2 with ⟨hz,_⟩|⟨g2,cap2,cur2,hz,hz2,_⟩
         ·rw[hz] at hg;cases hg
         ·rw[hz] at hg;injection hg with hg;subst hg;exact hz2
        ·by_cases hqr:q=r
         ·subst hqr
          rw[List.getElem?_set_self (List.getElem?_eq_some_iff.1 hr).1] at hq
          injection hq with hq
          subst hq
          cases hf
         ·rw[List.getElem?_set_ne (fun e=>hqr e.symm)] at hq
          rcases r4 with r4|r4
          ·rw[r4] at hg
           exact hrel.dist r q _ k g hr hq (fun e=>hqr e.symm) rfl hlk (presTrue_nil ρ) hp hg hc
          ·rw[r4] at hg
           injection hg with hg
           have:=(hrel.lt hq hlk hp hc).1
           omega
       ·simp at h
      split at h
      ·rename_i hok2
       simp only[Bool.and_eq_true,decide_eq_true_eq] at hok2
       obtain ⟨⟨rfl,_⟩,hfree⟩:=hok2
       simp only[Option.some.injEq,Prod.mk.injEq] at h
       obtain ⟨rfl,rfl,rfl⟩:=h
       have hr:=ownRow_blk hor
       have hin0:rowIn S.blks r=some (s,e,[]):=by simp[rowIn,hr]
       obtain ⟨hv0,hn⟩:=(ev_sound hrel (presTrue_nil ρ) hsa).2 s e [] hin0 (presTrue_nil ρ)
       obtain ⟨et',xs,hown,hrd,_⟩:=hrel.rows.row r s e [] hin0 (presTrue_nil ρ)
       have h0:=ho.1 (presTrue_nil ρ)
       simp only[E.eval,cmpI,rawArith,C.toBool_bool,C.toInt_int] at h0
       have h0:=of_decide_eq_true h0
       rw[hby,hn] at h0
       have hbytes:((e.eval ρ).toList.length+(m.eval ρ).toList.length)*i.bytes≤140737488355328:=by
        have:((((e.eval ρ).toList.length+(m.eval ρ).toList.length)*i.bytes:Nat):Int)≤140737488355328:=by rw[Int.natCast_mul,Int.natCast_add];exact h0
        omega
       obtain ⟨v',w',et2,r1,r2,r3,r4,_⟩:=law hown hbytes
       have hnew:=isFree_blk hfree
       have hdl:d<S.blks.length:=by obtain ⟨k,hk,_⟩:=hnew;exact (List.getElem?_eq_some_iff.1 hk).1
       have hevl:((E.app e m).eval ρ).toList=(e.eval ρ).toList++(m.eval ρ).toList:=by simp[E.eval]
       refine fin_w (v:=v') (w':=w') (exec (by rw[hv0];exact r1)) (hrel.grows hr hnew (lb:= .row s (.app e m)) rfl r3 (fun g hg=>r4.elim (fun r4=> .inl (r4▸hg)) fun r4=> .inr (by rw[r4] at hg;injection hg with hg;omega)) fun hkk=>?_) ⟨⟨⟨.row s (.app e m),false,[]⟩,by simp[hdl],by simp⟩,fun s2 e2 p hin _=>?_⟩
       ·refine ⟨et2,xs++news,?_,?_,hs0⟩
        ·rw[hevl,List.length_append]
         simpa [upd] using r2
        ·rw[hevl]
         exact (hrd.append q3).mono r3.size hkk
       ·simp[rowIn,hdl] at hin
        obtain ⟨rfl,rfl,rfl⟩:=hin
        refine ⟨by simp[upd],?_⟩
        rw[hevl,List.length_append]
        simp[E.eval,rawArith,hn,eval_lenE]
      ·simp at h
     ·simp at h
    ·simp at h
   ·simp at h
 ·simp at h
theorem RelH.sameRow (h:RelH P N0 w0 ρ S hv a w) {r:Nat} {s:Sh} {e e':E} (hr:S.blks[r]?=some ⟨.row s e,false,[]⟩) (he:(e'.eval ρ).toList=(e.eval ρ).toList):
  RelH P N0 w0 ρ {S with blks:=S.blks.set r ⟨.row s e',false,[]⟩} hv a w:=by
 have hrl:r<S.blks.length:=(List.getElem?_eq_some_iff.1 hr).1
 have hle:BsLe ρ S.blks (S.blks.set r ⟨.row s e',false,[]⟩) hv hv:=row_le hr (by rw[he])
 have back:∀(q:Nat) (k:Blk),(S.blks.set r ⟨.row s e',false,[]⟩)[q]?=some k→∃k0,S.blks[q]?=some k0∧liveB k0=liveB k∧k0.froz=k.froz∧k0.pres=k.pres:=by
  intro q k hq
  by_cases hqr:q=r
  ·subst hqr
   rw[List.getElem?_set_self hrl] at hq
   injection hq with hq
   subst hq
   exact ⟨_,hr,rfl,rfl,rfl⟩
  ·rw[List.getElem?_set_ne (fun e=>hqr e.symm)] at hq
   exact ⟨k,hq,rfl,rfl,rfl⟩
 have hkk:∀b,NN N0 w0.own ρ S.blks hv b→b<w.heap.size→w.heap[b]?=w.heap[b]?∧NN N0 w0.own ρ (S.blks.set r ⟨.row s e',false,[]⟩) hv b:=by
  intro b hb _
  refine ⟨rfl,hb.1,fun q k hq hl hf hp=>?_⟩
  obtain ⟨k0,h1,h2,h3,h4⟩:=back q k hq
  exact hb.2 q k0 h1 (by rw[h2];exact hl) (by rw[h3];exact hf) (by rw[h4];exact hp)
 refine h.step hle h.below (Nat.le_refl _) hkk ?_ ?_
 ·intro q k hq hp
  by_cases hqr:q=r
  ·subst hqr
   rw[List.getElem?_set_self hrl] at hq
   injection hq with hq
   subst hq
   have:=(h.blks q _ hr (presTrue_nil ρ)).le (Nat.le_refl _) hkk hle rfl fun _ _=>rfl
   obtain ⟨et,xs,g1,g2,g3⟩:=this
   exact ⟨et,xs,by rw[he];exact g1,by rw[he];exact g2,g3⟩
  ·rw[List.getElem?_set_ne (fun e=>hqr e.symm)] at hq
   exact (h.blks q k hq hp).le (Nat.le_refl _) hkk hle rfl fun _ _=>rfl
 ·intro q1 q2 k1 k2 g h1 h2 hne l1 l2 p1 p2
  obtain ⟨k3,a1,a2,_,a4⟩:=back q1 k1 h1
  obtain ⟨k4,b1,b2,_,b4⟩:=back q2 k2 h2
  exact h.dist q1 q2 k3 k4 g a1 b1 hne (by rw[a2];exact l1) (by rw[b2];exact l2) (by rw[a4];exact p1) (by rw[b4];exact p2)
theorem eval_splice {e off m n:E} {o1 m1:Nat} (ho:(off.eval ρ).toInt=(o1:Int)) (hn:(n.eval ρ).toInt=(m1:Int)) (hle:o1+m1≤(e.eval ρ).toList.length):
  ((E.splice e off (.sub m (.int 0) n)).eval ρ).toList=(e.eval ρ).toList.take o1++((m.eval ρ).toList.take (min (m.eval ρ).toList.length m1)++(e.eval ρ).toList.drop (o1+min (m.eval ρ).toList.length m1)):=by
 simp only[E.eval,C.toList_ls,C.toInt_int,ho,hn,Int.toNat_natCast,splice,Int.toNat_zero,List.drop_zero]
 have h1:((m.eval ρ).toList.take m1).length=min (m.eval ρ).toList.length m1:=by simp[Nat.min_comm]
 rw[List.take_of_length_le (l:=(m.eval ρ).toList.take m1) (by rw[h1];omega),h1]
 congr 2
 by_cases h:m1≤(m.eval ρ).toList.length
 ·rw[Nat.min_eq_right h]
 ·rw[Nat.min_eq_left (by omega),List.take_of_length_le (by omega),List.take_of_length_le (by omega)]
theorem copyX_sound (hrel:RelH P N0 w0 ρ S hv a w) {ts:Array TypeId} {x y:Operand} (hop:o.op= .call {callee:= .builtin .copy,args:= #[x,y],argTypes:=ts}) {sx:SX} {bs':List Blk}
  (h:copyX P S.blks ts (S.ev P [] x (ts.getD 0 0)) (S.ev P [] y (ts.getD 1 0))=some (sx,bs')):
  o.wp P a w (fun a' w'=>∃hv',RelH P N0 w0 ρ {S with tmps:=putT S.tmps o.dst ⟨[],sx⟩,blks:=bs'} hv' a' w') Q:=by
 unfold copyX at h
 split at h
 ·rename_i et sa sb ht hsa hsb
  split at h
  ·rename_i s m f r off n hsrc hdst
   split at h
   ·rename_i s' e hor
    split at h
    ·rename_i hok
     simp only[Bool.and_eq_true,decide_eq_true_eq] at hok
     obtain ⟨⟨rfl,hfit⟩,hts⟩:=hok
     simp only[Option.some.injEq,Prod.mk.injEq] at h
     obtain ⟨rfl,rfl⟩:=h
     obtain ⟨t0,t1,rfl⟩:∃t0 t1,ts= #[t0,t1]:=by
      obtain ⟨tl⟩:=ts
      match tl,hts with
      | [t0,t1],_=>exact ⟨t0,t1,rfl⟩
     obtain ⟨d2,news,q1,q2,q3,q4,q5⟩:=srcX_sound hrel hsrc (ev_sound hrel (presTrue_nil ρ) hsb)
     have hu:P.underlying t0=some (.slice et):=elemT_spec ht
     have hr:=ownRow_blk hor
     have hin0:rowIn S.blks r=some (s,e,[]):=by simp[rowIn,hr]
     obtain ⟨et',xs,hown,hrd,hs0⟩:=hrel.rows.row r s e [] hin0 (presTrue_nil ρ)
     obtain ⟨o1,m1,ad,cap,ho,hn,hle,hvx,ha⟩:∃o1 m1 ad cap,(off.eval ρ).toInt=((o1:Nat):Int)∧(n.eval ρ).toInt=((m1:Nat):Int)∧o1+m1≤(e.eval ρ).toList.length∧a.eval x= .slice ad m1 cap∧(0<m1→∃g,blkNo (hv r)=some g∧ad=some ⟨g,o1*s.size,none⟩):=by
      have hxx:=ev_sound hrel (presTrue_nil ρ) hsa
      unfold dstX at hdst
      split at hdst
      ·simp at hdst
       obtain ⟨rfl,rfl,rfl⟩:=hdst
       obtain ⟨hv0,hn⟩:=hxx.2 s e [] hin0 (presTrue_nil ρ)
       rcases own_cells hown with ⟨h5,h6,_⟩|⟨g,cap,h5,_⟩
       ·exact ⟨0,(e.eval ρ).toList.length,none,0,by simp[E.eval],hn,by omega,by rw[hv0,h5,h6],fun h=>by omega⟩
       ·exact ⟨0,(e.eval ρ).toList.length,_,cap,by simp[E.eval],hn,by omega,by rw[hv0,h5],fun _=>⟨g,by rw[h5];rfl,by simp⟩⟩
      ·simp at hdst
       obtain ⟨rfl,rfl,rfl⟩:=hdst
       obtain ⟨o1,m1,ho,hm,hle,ad,cap,hv1,_,_,ha⟩:=hxx.2 s e [] hin0 (presTrue_nil ρ)
       exact ⟨o1,m1,ad,cap,ho,hm,hle,hv1,ha⟩
      ·simp at hdst
     have hev:=eval_splice (e:=e) (off:=off) (m:=m) (n:=n) ho hn hle
     have hk:Nat.min (m.eval ρ).toList.length m1=min (m.eval ρ).toList.length m1:=rfl
     have hres:∀ {bs':List Blk} {w':World},RdX w' (NN N0 w0.own ρ bs' hv) ρ bs' hv (.dat (.int .i64) (.minI (lenE m) n)) (.int .i64 ((min (m.eval ρ).toList.length m1:Nat):Int)):=by
      intro bs' w'
      rw[RdX_int]
      simp[E.eval,eval_lenE,hn]
      omega
     have hfc:=q5 w (min (m.eval ρ).toList.length m1) (fun _ _=>rfl) (Nat.min_le_left _ _)
     by_cases hk0:min (m.eval ρ).toList.length m1=0
     ·have heq:((E.splice e off (.sub m (.int 0) n)).eval ρ).toList=(e.eval ρ).toList:=by rw[hev,hk0];simp
      refine fin_w (v:= .int .i64 ((min (m.eval ρ).toList.length m1:Nat):Int)) (w':=w) (exec_builtin hop (fun _=>by simp[builtin]) (m:=Builtin.copy_ #[t0,t1] o.type #[a.eval x,a.eval y]) ?_) (hrel.sameRow hr heq) hres
      rw[hk0] at hfc
      simp only[Nat.zero_mul,List.take_zero] at hfc
      rw[hvx]
      cases ad with
      |none=>simp[Builtin.copy_,run_underlying hu,q4,run_sizeOf hfit,hk,hk0,hfc,goInt]
      |some ad=>simp[Builtin.copy_,run_underlying hu,q4,run_sizeOf hfit,hk,hk0,hfc,goInt,storeCells]
     ·obtain ⟨g,hg,rfl⟩:=ha (by omega)
      have hml:(news.take (min (m.eval ρ).toList.length m1*s.size)).length=min (m.eval ρ).toList.length m1*s.size:=by
       have:min (m.eval ρ).toList.length m1*s.size≤news.length:=by rw[q3.length];exact Nat.mul_le_mul_right _ (Nat.min_le_left _ _)
       simp
       omega
      obtain ⟨cur,ty,c1,c2,c3⟩:=row_store (e':= .splice e off (.sub m (.int 0) n)) hrel hr hg (off:=o1*s.size) (us:=news.take (min (m.eval ρ).toList.length m1*s.size)) (by rw[hev];simp;omega) (fun xs hxs hxl=>by
       rw[hml,hev]
       have hb:(o1+min (m.eval ρ).toList.length m1)*s.size≤(e.eval ρ).toList.length*s.size:=Nat.mul_le_mul_right _ (by omega)
       rw[Nat.add_mul] at hb
       refine ⟨by omega,?_⟩
       have h3:=hxs.drop (o1+min (m.eval ρ).toList.length m1)
       rw[Nat.add_mul] at h3
       exact (hxs.take o1).append ((q3.take _).append h3))
      refine fin_w (v:= .int .i64 ((min (m.eval ρ).toList.length m1:Nat):Int)) (exec_builtin hop (fun _=>by simp[builtin]) (m:=Builtin.copy_ #[t0,t1] o.type #[a.eval x,a.eval y]) ?_) c3 hres
      have hst:=run_storeCells_at P g (o1*s.size) ty (news.take (min (m.eval ρ).toList.length m1*s.size)) 0 cur w c1 (by simpa using c2) (fun u hu=>RdRow_one q3 u (List.mem_of_mem_take hu))
      simp only[Nat.add_zero] at hst
      rw[hvx]
      simp[Builtin.copy_,run_underlying hu,q4,run_sizeOf hfit,hk,hfc,goInt,hst]
    ·simp at h
   ·simp at h
  ·simp at h
 ·simp at h
end
end Go.Vc

namespace Go.Vc
open Go.RowKit
section
variable {P:Program} {cfg:Cfg} {N0:Nat→Prop} {w0:Wb} {ρ:List C} {S:SS} {hv:Nat→Value} {a:Act} {w:World} {o:Oper} {Q:Exit→Act→World→Prop}
theorem RdRow_prim {w w':World} {N N':Nat→Prop} {s:Sh} (hs:s.prim=true):∀ {l:List C} {xs:List Value},RdRow w N s xs l→RdRow w' N' s xs l
 | [],_,h=>h
 |_::_,_,⟨u,r,h1,h2,h3⟩=>⟨u,r,h1,Rd_prim hs h2,RdRow_prim hs h3⟩
theorem frzAll_blk {fz:List Nat} {bs:List Blk} {r:Nat} (hr:r∉fz):(frzAll fz bs)[r]?=bs[r]?:=by
 rw[frzAll_eq]
 exact frzs_other fz bs hr
theorem frzAll_none {fz:List Nat} {bs:List Blk} {d:Nat} (h:∃k,bs[d]?=some k∧k.lb= .none):∃k,(frzAll fz bs)[d]?=some k∧k.lb= .none:=by
 induction fz generalizing bs with
 |nil=>exact h
 |cons r l ih=>
  apply ih
  obtain ⟨k,h1,h2⟩:=h
  by_cases e:r=d
  ·subst e
   exact ⟨{k with froz:=true},by simp[h1],h2⟩
  ·exact ⟨k,by simp[e,h1],h2⟩
theorem ownsR_mono {B B':Nat→Prop} {et:TypeId} {size:Nat} {v:Value} {n:Nat} {xs:List Value} (h:w.ownsR B et size v n xs) (hB:∀g,blkNo v=some g→B g→B' g):w.ownsR B' et size v n xs:=by
 obtain ⟨h1,h2⟩:=h
 refine ⟨h1,?_⟩
 rcases h2 with h2|⟨g,cap,cur,h3,h4,h5⟩
 ·exact .inl h2
 ·exact .inr ⟨g,cap,cur,h3,hB g (by rw[h3];rfl) h4,h5⟩
theorem exec_call {f:Nat} {args:Array Operand} {ts:Array TypeId} (hop:o.op= .call {callee:= .value (.func f),args:=args,argTypes:=ts}) (hc:Callable P f):
  (execOp a.eval o).run P w= .ok (.enter f (args.toList.map a.eval).toArray) w:=by
 obtain ⟨fn,hfn,hbody,hname⟩:=hc
 have hn:¬fn.name= "runtime.NumGoroutine" :=by simpa using hname
 have hb:¬fn.body=none:=by intro h;simp[h] at hbody
 have harr:(args.toList.map a.eval).toArray=args.map a.eval:=by apply Array.ext';simp
 rw[harr]
 simp[execOp,hop,resolve,Deferred.ofValue,Act.eval,invoke,callFunc,hfn,hn,hb]
theorem frzs_live {fz:List Nat} {bs:List Blk} {q:Nat} {k:Blk} (h:(runCmds (fz.map .frz) bs)[q]?=some k) (hf:k.froz=false):q∉fz∧bs[q]?=some k:=by
 by_cases hq:q∈fz
 ·rw[frzs_not fz hq h] at hf
  cases hf
 ·exact ⟨hq,by rw[frzs_other fz bs hq] at h;exact h⟩
/-- What the call leaves is data still. -/
theorem behind_NN (hrel:RelH P N0 w0 ρ S hv a w) {fz:List Nat} (hf:∀q∈fz,LiveAt S.blks ρ q) {v0 v1:Value} {d:Nat} {bs':List Blk}
  (hv0:∀g,blkNo v0=some g→w0.own g) (hq:∀q k,q≠d→bs'[q]?=some k→liveB k=true→k.froz=false→q∉fz∧S.blks[q]?=some k∧∀b,presTrue ρ k.pres→blkNo v0=some b→blkNo (hv q)≠some b)
  {b:Nat} (h:Behind (NF (NN N0 w0.own ρ S.blks hv) hv fz) w v0 v1 b):NN N0 w0.own ρ bs' (upd hv d v1) b:=by
 obtain ⟨h1,h2⟩:=h
 have hrow:∀r∈fz,∀g,blkNo (hv r)=some g→w0.own g∧∃k,S.blks[r]?=some k∧liveB k=true∧presTrue ρ k.pres:=by
  intro r hr g hg
  obtain ⟨k,e3,el,e2⟩:=hf r hr
  exact ⟨(hrel.lt e3 el e2 hg).2,k,e3,el,e2⟩
 refine ⟨?_,fun q k hqk hl hfz hp=>?_⟩
 ·rcases h1 with (h1|⟨r,hr,hg⟩)|h1|h1
  ·exact h1.1
  ·exact .inr (hrow r hr b hg).1
  ·exact .inr (.inl (Nat.le_trans hrel.below.size h1))
  ·exact .inr (hv0 b h1)
 ·by_cases hqd:q=d
  ·subst hqd
   simpa [upd] using h2
  ·simp only[upd,if_neg hqd]
   obtain ⟨g1,g2,g3⟩:=hq q k hqd hqk hl hfz
   rcases h1 with (h1|⟨r,hr,hg⟩)|h1|h1
   ·exact h1.2 q k g2 hl hfz hp
   ·obtain ⟨_,k',e1,e2,e3⟩:=hrow r hr b hg
    exact hrel.dist r q k' k b e1 g2 (fun e=>g1 (e▸hr)) e2 hl e3 hp hg
   ·intro hc
    have:=(hrel.lt g2 hl hp hc).1
    omega
   ·exact g3 b hp h1
theorem pack_one (v:Value):pack [v]=v:=by simp[pack]
theorem pack_more {v:Value} {vr:List Value} (h:vr≠[]):pack (v::vr)= .tuple (v::vr).toArray:=by
 unfold pack
 rw[dif_neg]
 cases vr with
 |nil=>exact absurd rfl h
 |cons _ _=>simp
/-- The result, by what it is. -/
theorem ownRes_sound {bs:List Blk} {N:Nat→Prop} {d nv:Nat} {s:Sh} {rets:List Sh} {v1:Value} {vr:List Value} (hd:bs[d]?=some ⟨.row s (.var nv),false,[]⟩) (hv1:hv d=v1)
  (hr:RdVs w N (evalArgs ρ (retVars (nv+1) rets)) vr):RdX w N ρ bs hv (ownRes d nv rets) (pack (v1::vr)):=by
 have hk:known bs d:=⟨_,hd,by simp⟩
 have hrow:∀s' e p,rowIn bs d=some (s',e,p)→presTrue ρ p→v1=hv d∧(((E.var nv).len).eval ρ).toInt=((e.eval ρ).toList.length:Int):=by
  intro s' e p h _
  simp[rowIn,hd] at h
  obtain ⟨rfl,rfl,rfl⟩:=h
  exact ⟨hv1.symm,rfl⟩
 unfold ownRes
 split
 ·rename_i h0
  subst h0
  simp only[retVars,evalArgs,List.map_nil,RdVs] at hr
  subst hr
  rw[pack_one]
  exact ⟨hk,hrow⟩
 ·rename_i h0
  have hne:vr≠[]:=by
   intro e
   subst e
   cases rets with
   |nil=>exact h0 rfl
   |cons r l=>obtain ⟨_,_,h,_⟩:=hr;cases h
  rw[pack_more hne]
  exact ⟨hk,v1,vr,rfl,hrow,hr,retVars_exact rets (nv+1)⟩
theorem prim_rets {rets:List Sh} {nv:Nat} (h:rets.all Sh.prim=true) (hl:nv+rets.length≤ρ.length):∀x∈evalArgs ρ (retVars nv rets),x.1.prim=true:=by
 intro x hx
 rw[eval_retVars rets nv hl] at hx
 simp only[List.all_eq_true] at h
 exact h _ (List.of_mem_zip hx).1
/-- A new row has come out of a call. -/
theorem fresh_fin (hrel:RelH P N0 w0 ρ S hv a w) {fz:List Nat} (hfz:∀q∈fz,LiveAt S.blks ρ q) {d:Nat} (hnew:∃k,S.blks[d]?=some k∧k.lb= .none) {s:Sh} {rets:List Sh} (hs0:0<s.size)
  {w':World} {v1:Value} {vr:List Value} {et':TypeId} {cs':List Value} (hbel:Below w.heap.size w w')
  (g2:w'.ownsR (fun g=>w.heap.size≤g) et' s.size v1 ((E.var S.nv).eval ρ).toList.length cs')
  (g3:RdRow w' (Behind (NF (NN N0 w0.own ρ S.blks hv) hv fz) w (.slice none 0 0) v1) s cs' ((E.var S.nv).eval ρ).toList)
  (g4:RdVs w' (Behind (NF (NN N0 w0.own ρ S.blks hv) hv fz) w (.slice none 0 0) v1) (evalArgs ρ (retVars (S.nv+1) rets)) vr) (hlen:S.nv+1+rets.length≤ρ.length):
  ∃hv',RelH P N0 w0 ρ {tmps:=putT S.tmps o.dst ⟨[],ownRes d S.nv rets⟩,blks:=(frzAll (frzIf s rets fz) S.blks).set d ⟨.row s (.var S.nv),false,[]⟩,nv:=S.nv+(1+rets.length)} hv' (a.put o.dst (pack (v1::vr))) w':=by
 refine ⟨upd hv d v1,?_⟩
 have H1:=hrel.frzs (frzIf s rets fz)
 rw[←frzAll_eq] at H1
 have hdb:((frzAll (frzIf s rets fz) S.blks).set d ⟨.row s (.var S.nv),false,[]⟩)[d]?=some ⟨.row s (.var S.nv),false,[]⟩:=by
  obtain ⟨k,hk,_⟩:=frzAll_none (fz:=frzIf s rets fz) hnew
  have:=(List.getElem?_eq_some_iff.1 hk).1
  rw[List.getElem?_set_self (by simpa using this)]
 have hbeh:(s.prim&&rets.all Sh.prim)=false→∀b,Behind (NF (NN N0 w0.own ρ S.blks hv) hv fz) w (.slice none 0 0) v1 b→
   NN N0 w0.own ρ ((frzAll (frzIf s rets fz) S.blks).set d ⟨.row s (.var S.nv),false,[]⟩) (upd hv d v1) b:=by
  intro hpr b hb
  refine behind_NN hrel hfz (fun g hg=>by cases hg) (fun q k hqd hq hl hfr=>?_) hb
  rw[List.getElem?_set_ne (fun e=>hqd e.symm),frzAll_eq] at hq
  obtain ⟨q1,q2⟩:=frzs_live hq hfr
  refine ⟨?_,q2,fun b' hp hb'=>by cases hb'⟩
  unfold frzIf at q1
  rwa[hpr] at q1
 have H2:=(H1.new (frzAll_none hnew) (.row s (.var S.nv)) [] v1 hbel
  (fun g hg=>by
   rcases g2.2 with ⟨g5,_⟩|⟨g',cap,cur,g5,g6,_⟩
   ·rw[g5] at hg;cases hg
   ·rw[g5] at hg
    injection hg with hg
    subst hg
    exact g6)
  (fun _=>by
   refine ⟨et',cs',?_,?_,hs0⟩
   ·simp only[upd,if_true]
    exact ownsR_mono g2 fun g _ hg=> .inl (Nat.le_trans hrel.below.size hg)
   ·by_cases hpr:(s.prim&&rets.all Sh.prim)=true
    ·simp only[Bool.and_eq_true] at hpr
     exact RdRow_prim hpr.1 g3
    ·exact g3.mono (Nat.le_refl _) fun b hb _=>⟨rfl,hbeh (by simpa using hpr) b hb⟩)).1
 refine (H2.put o.dst [] _ _ (fun _=>?_) (fun h=>absurd (presTrue_nil ρ) h)).nv _
 refine ownRes_sound hdb (by simp[upd]) ?_
 by_cases hpr:(s.prim&&rets.all Sh.prim)=true
 ·simp only[Bool.and_eq_true] at hpr
  exact RdVs_prim (prim_rets hpr.2 hlen) g4
 ·exact g4.mono (Nat.le_refl _) fun b hb _=>⟨rfl,hbeh (by simpa using hpr) b hb⟩
theorem growX_sound (hrel : RelH P N0 w0 ρ S hv a w) {f d : Nat} {args : Array Operand} {ts : Array TypeId} (hop : o.op = .call { callee := .value (.func f), args := args, argTypes := ts })
    {x : SX} {bs' : List Blk} {obs : List Ob} {n : Nat} (h : growX P (S.ev P) S.blks S.nv o.type d f args.toList ts.toList = some (x, bs', obs, n)) (ho : obsHold P ρ S.nv obs) :
    o.wp P a w (fun a' w' => ∃ hv', RelH P N0 w0 ρ { tmps := putT S.tmps o.dst ⟨[], x⟩, blks := bs', nv := S.nv + n } hv' a' w') Q := by
  unfold growX at h
  split at h
  · rename_i s rets x0 xs hrt hargs
    split at h
    · rename_i l fz ha
      split at h
      · rename_i hok
        simp only [Bool.and_eq_true, decide_eq_true_eq] at hok
        obtain ⟨hs0, hfree, hf⟩ := hok
        have hs0 : 0 < s.size := by simp at hs0; omega
        have hnew := isFree_blk hfree
        have hdl : d < S.blks.length := by obtain ⟨k, hk, _⟩ := hnew; exact (List.getElem?_eq_some_iff.1 hk).1
        obtain ⟨hfz, hrds⟩ := argsX_sound hrel.rows (presTrue_nil ρ) (fun o t x => ev_sound hrel (presTrue_nil ρ)) ha
        have hlist : args.toList.map a.eval = a.eval x0 :: xs.map a.eval := by rw [hargs]; rfl
        -- the contract, at this call
        have contract : ∀ e, obsHold P ρ S.nv [.call [] (1000000 + f) ((.sl s, e) :: l) (.sl s :: rets)] → ∀ (et : TypeId) (cs : List Value), w.ownsR (fun _ => True) et s.size (a.eval x0) (e.eval ρ).toList.length cs →
            RdRow w (NF (NN N0 w0.own ρ S.blks hv) hv fz) s cs (e.eval ρ).toList → (∀ g, blkNo (a.eval x0) = some g → ¬ NF (NN N0 w0.own ρ S.blks hv) hv fz g) → (∀ g, blkNo (a.eval x0) = some g → ¬ KWb P g) →
            ∀ {R : Ending → World → Prop}, (∀ (w' : World) (v1 : Value) (vr : List Value) (et' : TypeId) (cs' : List Value), w.grownBy w' (blkNo (a.eval x0)) →
              w'.ownsR (fun g => w.heap.size ≤ g ∨ blkNo (a.eval x0) = some g) et' s.size v1 ((E.var S.nv).eval ρ).toList.length cs' →
              RdRow w' (Behind (NF (NN N0 w0.own ρ S.blks hv) hv fz) w (a.eval x0) v1) s cs' ((E.var S.nv).eval ρ).toList →
              RdVs w' (Behind (NF (NN N0 w0.own ρ S.blks hv) hv fz) w (a.eval x0) v1) (evalArgs ρ (retVars (S.nv + 1) rets)) vr → S.nv + 1 + rets.length ≤ ρ.length → R (.returned (pack (v1 :: vr))) w') →
            Callable P f ∧ Calls P f (args.toList.map a.eval).toArray w R := by
          intro e hob et cs h1 h2 h3 h5 R hR
          obtain ⟨hpc, hlen⟩ := hob.1 (presTrue_nil ρ)
          have hlen : S.nv + (1 + rets.length) ≤ ρ.length := by
            rcases hlen with h0 | hlen
            · cases h0
            · simp only [List.length_cons] at hlen; omega
          have hev := eval_retVars (ρ := ρ) (.sl s :: rets) S.nv (by simp only [List.length_cons]; omega)
          rw [← hev] at hpc
          obtain ⟨s', c0, args', c1, rets', ea, er, hcal, hcall⟩ := hpc.toG hf
          simp only [evalArgs, List.map_cons, List.cons.injEq, Prod.mk.injEq, Sh.sl.injEq] at ea
          obtain ⟨⟨rfl, rfl⟩, rfl⟩ := ea
          simp only [retVars, evalArgs, List.map_cons, List.cons.injEq, Prod.mk.injEq, true_and] at er
          obtain ⟨rfl, rfl⟩ := er
          refine ⟨hcal, ?_⟩
          rw [hlist]
          refine (hcall w _ et cs (a.eval x0) (xs.map a.eval) hrel.below.now h5 h1 h2 h3 hrds).mono fun en w' => ?_
          rintro ⟨v1, vr, et', cs', rfl, g1, g2, g3, g4⟩
          exact hR w' v1 vr et' cs' g1 g2 g3 g4 (by omega)
        split at h
        · rename_i r m hx0
          split at h
          · rename_i s' e hor
            split at h
            · rename_i hok2
              simp only [Bool.and_eq_true, decide_eq_true_eq, Bool.not_eq_true'] at hok2
              obtain ⟨rfl, hnr⟩ := hok2
              have hnr : r ∉ fz := by simpa using hnr
              simp only [Option.some.injEq, Prod.mk.injEq] at h
              obtain ⟨rfl, rfl, rfl, rfl⟩ := h
              have hr := ownRow_blk hor
              have hin0 : rowIn S.blks r = some (s, e, []) := by simp [rowIn, hr]
              obtain ⟨hv0, _⟩ := (ev_sound hrel (presTrue_nil ρ) hx0).2 s e [] hin0 (presTrue_nil ρ)
              obtain ⟨et, cs, hown, hrd, _⟩ := hrel.rows.row r s e [] hin0 (presTrue_nil ρ)
              have hsub : ∀ q ∈ frzIf s rets fz, q ∈ fz := by
                intro q hq
                unfold frzIf at hq
                split at hq
                · cases hq
                · exact hq
              have hnr' : r ∉ frzIf s rets fz := fun hc => hnr (hsub r hc)
              have H1 := hrel.frzs (frzIf s rets fz)
              rw [← frzAll_eq] at H1
              have hr1 : (frzAll (frzIf s rets fz) S.blks)[r]? = some ⟨.row s e, false, []⟩ := by rw [frzAll_blk hnr']; exact hr
              have hrd' : r ≠ d := by
                rintro rfl
                obtain ⟨k, hk, hk2⟩ := hnew
                rw [hr] at hk
                injection hk with hk
                subst hk
                cases hk2
              obtain ⟨hcal, hcall⟩ := contract e ho et cs (by rw [hv0]; exact ownsR_mono hown fun _ _ _ => trivial) (hrd.mono (Nat.le_refl _) fun b hb _ => ⟨rfl, .inl hb⟩)
                (by
                  intro g hg hn
                  rw [hv0] at hg
                  rcases hn with hn | ⟨q, hq, hqg⟩
                  · exact hn.2 r _ hr rfl rfl (presTrue_nil ρ) hg
                  · obtain ⟨k2, e5, el, e4⟩ := hfz q hq
                    exact hrel.dist r q _ _ g hr e5 (fun e => hnr (e ▸ hq)) rfl el (presTrue_nil ρ) e4 hg hqg)
                (by intro g hg; rw [hv0] at hg; exact hrel.below.own (hrel.lt hr rfl (presTrue_nil ρ) hg).2)
                (R := fun en w' => ∃ v, en = .returned v ∧ ∃ hv', RelH P N0 w0 ρ { tmps := putT S.tmps o.dst ⟨[], ownRes d S.nv rets⟩, blks := ((frzAll (frzIf s rets fz) S.blks).set r ⟨.dead, false, []⟩).set d ⟨.row s (.var S.nv), false, []⟩, nv := S.nv + (1 + rets.length) } hv' (a.put o.dst v) w')
                (by
                  intro w' v1 vr et' cs' g1 g2 g3 g4 hlen
                  rw [hv0] at g1 g2 g3 g4
                  refine ⟨_, rfl, upd hv d v1, ?_⟩
                  have hown1 : ∀ g, blkNo (hv r) = some g → w0.own g := fun g hg => (hrel.lt hr rfl (presTrue_nil ρ) hg).2
                  have hdb : (((frzAll (frzIf s rets fz) S.blks).set r ⟨.dead, false, []⟩).set d ⟨.row s (.var S.nv), false, []⟩)[d]? = some ⟨.row s (.var S.nv), false, []⟩ := by
                    obtain ⟨k, hk, _⟩ := frzAll_none (fz := frzIf s rets fz) hnew
                    have := (List.getElem?_eq_some_iff.1 hk).1
                    rw [List.getElem?_set_self (by simpa using this)]
                  have hbeh : (s.prim && rets.all Sh.prim) = false → ∀ b, Behind (NF (NN N0 w0.own ρ S.blks hv) hv fz) w (hv r) v1 b →
                      NN N0 w0.own ρ (((frzAll (frzIf s rets fz) S.blks).set r ⟨.dead, false, []⟩).set d ⟨.row s (.var S.nv), false, []⟩) (upd hv d v1) b := by
                    intro hpr b hb
                    refine behind_NN hrel hfz hown1 (fun q k hqd hq hl hfr => ?_) hb
                    rw [List.getElem?_set_ne (fun e => hqd e.symm)] at hq
                    have hqr : q ≠ r := by
                      rintro rfl
                      have hlr := (List.getElem?_eq_some_iff.1 hr1).1
                      rw [List.getElem?_set_self hlr] at hq
                      injection hq with hq
                      subst hq
                      cases hl
                    rw [List.getElem?_set_ne (fun e => hqr e.symm), frzAll_eq] at hq
                    obtain ⟨q1, q2⟩ := frzs_live hq hfr
                    refine ⟨?_, q2, fun b' hp hb' => hrel.dist r q _ k b' hr q2 (fun e => hqr e.symm) rfl hl (presTrue_nil ρ) hp hb'⟩
                    unfold frzIf at q1
                    rwa [hpr] at q1
                  have H2 := H1.grows hr1 (frzAll_none hnew) (v' := v1) (w' := w') (lb := .row s (.var S.nv)) rfl g1
                    (fun g hg => by
                      rcases g2.2 with ⟨g5, _⟩ | ⟨g', cap, cur, g5, g6, _⟩
                      · rw [g5] at hg; cases hg
                      · rw [g5] at hg
                        injection hg with hg
                        subst hg
                        exact g6.symm)
                    (fun hkk => by
                      refine ⟨et', cs', ?_, ?_, hs0⟩
                      · simp only [upd, if_true]
                        exact ownsR_mono g2 fun g _ hg => hg.elim (fun h => .inl (Nat.le_trans hrel.below.size h)) (hown1 g)
                      · by_cases hpr : (s.prim && rets.all Sh.prim) = true
                        · simp only [Bool.and_eq_true] at hpr
                          exact RdRow_prim hpr.1 g3
                        · exact g3.mono (Nat.le_refl _) fun b hb _ => ⟨rfl, hbeh (by simpa using hpr) b hb⟩)
                  refine (H2.put o.dst [] _ _ (fun _ => ?_) (fun h => absurd (presTrue_nil ρ) h)).nv _
                  refine ownRes_sound hdb (by simp [upd]) ?_
                  by_cases hpr : (s.prim && rets.all Sh.prim) = true
                  · simp only [Bool.and_eq_true] at hpr
                    exact RdVs_prim (prim_rets hpr.2 hlen) g4
                  · exact g4.mono (Nat.le_refl _) fun b hb _ => ⟨rfl, hbeh (by simpa using hpr) b hb⟩)
              unfold Oper.wp
              rw [exec_call hop hcal, Oper.upon_enter]
              refine hcall.mono fun en w' => ?_
              rintro ⟨v, rfl, hv', hR⟩
              exact ⟨hv', hR⟩
            · simp at h
          · simp at h
        · rename_i s' hx0
          split at h
          · rename_i hss
            subst hss
            simp only [Option.some.injEq, Prod.mk.injEq] at h
            obtain ⟨rfl, rfl, rfl, rfl⟩ := h
            obtain ⟨vs, e1, e2, e3⟩ := ev_sound hrel (presTrue_nil ρ) hx0
            simp only [Exact] at e3
            subst e3
            have hv0 : a.eval x0 = .slice none 0 0 := by rw [e2]; simp [Sh.mk, Sh.isAgg]
            obtain ⟨hcal, hcall⟩ := contract .nilS ho 0 [] (by rw [hv0]; exact ⟨by simp [E.eval], .inl ⟨rfl, by simp [E.eval]⟩⟩) (by simp [E.eval, RdRow]) (by intro g hg; rw [hv0] at hg; cases hg) (by intro g hg; rw [hv0] at hg; cases hg)
              (R := fun en w' => ∃ v, en = .returned v ∧ ∃ hv', RelH P N0 w0 ρ { tmps := putT S.tmps o.dst ⟨[], ownRes d S.nv rets⟩, blks := (frzAll (frzIf s rets fz) S.blks).set d ⟨.row s (.var S.nv), false, []⟩, nv := S.nv + (1 + rets.length) } hv' (a.put o.dst v) w')
              (by
                intro w' v1 vr et' cs' g1 g2 g3 g4 hlen
                rw [hv0] at g1 g2 g3 g4
                have hbel : Below w.heap.size w w' := ⟨g1.os, g1.tape, g1.output, g1.size, fun k hk => g1.block k hk (by simp [blkNo])⟩
                exact ⟨_, rfl, fresh_fin hrel hfz hnew hs0 hbel (ownsR_mono g2 fun g _ hg => hg.elim id (fun h => by cases h)) g3 g4 hlen⟩)
            unfold Oper.wp
            rw [exec_call hop hcal, Oper.upon_enter]
            refine hcall.mono fun en w' => ?_
            rintro ⟨v, rfl, hv', hR⟩
            exact ⟨hv', hR⟩
          · simp at h
        · simp at h
      · simp at h
    · simp at h
  · simp at h
theorem freshX_sound (hrel:RelH P N0 w0 ρ S hv a w) {f d:Nat} {args:Array Operand} {ts:Array TypeId} (hop:o.op= .call {callee:= .value (.func f),args:=args,argTypes:=ts})
  {x:SX} {bs':List Blk} {obs:List Ob} {n:Nat} (h:freshX P (S.ev P) S.blks S.nv o.type d f args.toList ts.toList=some (x,bs',obs,n)) (ho:obsHold P ρ S.nv obs):
  o.wp P a w (fun a' w'=>∃hv',RelH P N0 w0 ρ {tmps:=putT S.tmps o.dst ⟨[],x⟩,blks:=bs',nv:=S.nv+n} hv' a' w') Q:=by
 unfold freshX at h
 split at h
 ·rename_i s rets hrt
  split at h
  ·rename_i l fz ha
   split at h
   ·rename_i hok
    simp only[Bool.and_eq_true,decide_eq_true_eq] at hok
    obtain ⟨hs0,hfree,hflt⟩:=hok
    have hs0:0<s.size:=by simp at hs0;omega
    have hnew:=isFree_blk hfree
    obtain ⟨hfz,hrds⟩:=argsX_sound hrel.rows (presTrue_nil ρ) (fun o t x=>ev_sound hrel (presTrue_nil ρ)) ha
    simp only[Option.some.injEq,Prod.mk.injEq] at h
    obtain ⟨rfl,rfl,rfl,rfl⟩:=h
    obtain ⟨hpc,hlen⟩:=ho.1 (presTrue_nil ρ)
    have hlen:S.nv+(1+rets.length)≤ρ.length:=by
     rcases hlen with h0|hlen
     ·cases h0
     ·simp only[List.length_cons] at hlen;omega
    have hev:=eval_retVars (ρ:=ρ) (.sl s::rets) S.nv (by simp only[List.length_cons];omega)
    rw[←hev] at hpc
    obtain ⟨s',c1,rets',er,hcal,hcall⟩:=hpc.toF hflt
    simp only[retVars,evalArgs,List.map_cons,List.cons.injEq,Prod.mk.injEq,Sh.sl.injEq] at er
    obtain ⟨⟨rfl,rfl⟩,rfl⟩:=er
    unfold Oper.wp
    rw[exec_call hop hcal,Oper.upon_enter]
    refine (hcall w _ _ hrel.below.now hrds).mono fun en w'=>?_
    rintro ⟨v1,vr,et',cs',rfl,g1,g2,g3,g4⟩
    exact fresh_fin hrel hfz hnew hs0 g1 g2 g3 g4 (by omega)
   ·simp at h
  ·simp at h
 ·simp at h
theorem opg_sound (hrel:RelH P N0 w0 ρ S hv a w) {x:SX} {bs':List Blk} {obs:List Ob} {n:Nat} (h:opg P cfg o (S.ev P) S.blks S.nv=some (x,bs',obs,n)) (ho:obsHold P ρ S.nv obs):
  o.wp P a w (fun a' w'=>∃hv',RelH P N0 w0 ρ {tmps:=putT S.tmps o.dst ⟨[],x⟩,blks:=bs',nv:=S.nv+n} hv' a' w') Q:=by
 unfold opg at h
 split at h
 ·rename_i f args ts d hop hd
  split at h
  ·exact growX_sound hrel hop h ho
  ·split at h
   ·exact freshX_sound hrel hop h ho
   ·simp at h
 ·simp at h
end
end Go.Vc

namespace Go.Vc
open Go.RowKit
section
variable {P:Program} {cfg:Cfg} {rb:Rb} {ev:Ev} {pc:Pres} {nv:Nat} {o:Oper} {out:Out}
/-- What an operation does to the blocks. -/
def CmdsOk (rb:Rb) (pc:Pres) (dst:Option Tmp) (cs:List Cmd):Prop:=
 (∃f:List Nat,cs=f.map Cmd.frz)∨∃d lb,dst=some d∧cs=[Cmd.put d ⟨lb,false,pc⟩]∧isNew rb d=true
theorem cmds_nil (rb:Rb) (pc:Pres) (dst:Option Tmp):CmdsOk rb pc dst []:=Or.inl ⟨[],rfl⟩
theorem binX_cmds {raw:Bool} {op:BinOp} {xt:TypeId} {s s':Sh} {x y:E} (h:binX P raw pc op xt s x s' y=some out):out.cmds=[]:=by
 unfold binX at h
 repeat' split at h
 all_goals first|(simp at h;done)|(simp at h;subst h;rfl)|(injection h with h;subst h;rfl)
theorem preX_out (h:preX P o pc ev=some out):out.cmds=[]∧out.nv=0∧obVars out.obs=0:=by
 unfold preX at h
 repeat' split at h
 all_goals first|(simp at h;done)|(simp at h;subst h;simp[obVars,Ob.vars];done)|(injection h with h;subst h;simp[obVars,Ob.vars])
theorem opx_cases (h:opx P cfg o pc ev rb nv=some out):(presFalse pc=true∧out= {x:= .none})∨(presFalse pc=false∧preX P o pc ev=some out)∨(presFalse pc=false∧preX P o pc ev=none∧opx0 P cfg o pc ev rb nv=some out):=by
 unfold opx at h
 split at h
 ·rename_i hf
  injection h with h
  exact .inl ⟨hf,h.symm⟩
 ·rename_i hf
  split at h
  ·rename_i out' hx
   injection h with h
   subst h
   exact .inr (.inl ⟨by simpa using hf,hx⟩)
  ·rename_i hx
   exact .inr (.inr ⟨by simpa using hf,hx,h⟩)
theorem callV_cmds {t:TypeId} {f:Nat} {pre:List (Sh×E)} {args:List Operand} {ts:List TypeId} {d:Option Tmp} (h:callV P cfg ev rb pc nv t f pre args ts=some out):CmdsOk rb pc d out.cmds:=by
 unfold callV at h
 split at h
 ·split at h
  ·rename_i rets _ _ _
   simp only[Option.some.injEq] at h
   subst h
   by_cases hp:(‹List Sh›).all Sh.prim=true
   ·simp only[hp,if_true];exact cmds_nil _ _ _
   ·simp only[hp];exact Or.inl ⟨_,rfl⟩
  ·simp at h
 ·simp at h
theorem opy_cmds (h:opy P cfg o pc ev rb nv=some out):CmdsOk rb pc o.dst out.cmds:=by
 unfold opy at h
 split at h
 ·repeat' split at h
  all_goals first|exact callV_cmds h|simp at h
 ·simp at h
 ·repeat' split at h
  all_goals first|exact callV_cmds h|simp at h
 ·repeat' split at h
  all_goals first|(simp at h;done)|(injection h with h;subst h;exact cmds_nil _ _ _)
 ·split at h
  ·rename_i d _ hd
   split at h
   ·split at h
    ·rename_i hok
     simp only[Bool.and_eq_true] at hok
     injection h with h
     subst h
     exact .inr ⟨_,_,hd,rfl,hok.1⟩
    ·simp at h
   ·simp at h
  ·simp at h
 ·split at h
  ·rename_i d _ _ hd
   split at h
   ·rename_i hok
    injection h with h
    subst h
    exact .inr ⟨_,_,hd,rfl,hok⟩
   ·simp at h
  ·simp at h
 ·simp at h
theorem opx0_cmds (h:opx0 P cfg o pc ev rb nv=some out):CmdsOk rb pc o.dst out.cmds:=by
 unfold opx0 at h
 split at h
 case h_1=>split at h<;>simp at h;subst h;exact cmds_nil _ _ _
 case h_2=>split at h<;>simp at h;subst h;exact cmds_nil _ _ _
 case h_3=>
  unfold pickX at h
  repeat' split at h
  all_goals first|(simp at h;done)|(simp at h;subst h;exact cmds_nil _ _ _)
 case h_4=>
  split at h
  ·rw[binX_cmds h];exact cmds_nil _ _ _
  ·simp at h
 case h_5=>
  unfold unX at h
  split at h<;>first|(simp at h;done)|(simp at h;subst h;exact cmds_nil _ _ _)
 case h_6=>
  unfold convX at h
  repeat' split at h
  all_goals first|(simp at h;done)|(simp at h;subst h;exact cmds_nil _ _ _)
 case h_7=>
  repeat' split at h
  all_goals first|(simp at h;done)|(simp at h;subst h;exact cmds_nil _ _ _)
 case h_8=>
  unfold fieldX at h
  repeat' split at h
  all_goals first|(simp at h;done)|(simp at h;subst h;exact cmds_nil _ _ _)
 case h_9=>
  unfold buildSX at h
  repeat' split at h
  all_goals first|(simp at h;done)|(simp at h;subst h;exact Or.inl ⟨_,rfl⟩)
 case h_10=>
  split at h
  ·unfold rowLitX at h
   split at h
   ·rename_i et d _ hd
    split at h
    ·simp at h
    ·split at h
     ·rename_i hok
      split at h
      ·simp at h
       subst h
       simp only[Bool.and_eq_true] at hok
       exact Or.inr ⟨d,_,hd,rfl,hok.1.1.1.1.1⟩
      ·simp at h
     ·simp at h
   ·simp at h
  ·unfold buildSlX at h
   repeat' split at h
   all_goals first|(simp at h;done)|(simp at h;subst h;exact Or.inl ⟨_,rfl⟩)
 case h_11=>
  unfold allocX at h
  split at h
  ·rename_i s d _ hd
   split at h
   ·split at h
    ·rename_i hok
     simp at h
     subst h
     simp only[Bool.and_eq_true] at hok
     exact Or.inr ⟨d,_,hd,rfl,hok.1.1⟩
    ·simp at h
   ·simp at h
  ·simp at h
 case h_12=>
  unfold boxX at h
  split at h
  ·rename_i s e d _ hd
   split at h
   ·rename_i hok
    simp at h
    subst h
    simp only[Bool.and_eq_true] at hok
    exact Or.inr ⟨d,_,hd,rfl,hok.1⟩
   ·simp at h
  ·rename_i r n d _ hd
   split at h
   ·split at h
    ·rename_i hok
     simp at h
     subst h
     simp only[Bool.and_eq_true] at hok
     exact Or.inr ⟨d,_,hd,rfl,hok.1⟩
    ·simp at h
   ·simp at h
  ·simp at h
 case h_13=>
  unfold loadX at h
  repeat' split at h
  all_goals first|(simp at h;done)|(simp at h;subst h;first|exact cmds_nil _ _ _|exact Or.inl ⟨_,rfl⟩)
 case h_14=>
  unfold nilX at h
  repeat' split at h
  all_goals first|(simp at h;done)|(simp at h;subst h;exact cmds_nil _ _ _)
 case h_15=>
  unfold faddrX at h
  repeat' split at h
  all_goals first|(simp at h;done)|(simp at h;subst h;exact cmds_nil _ _ _)
 case h_16=>
  unfold iaddrX at h
  repeat' split at h
  all_goals first|(simp at h;done)|(simp at h;subst h;exact cmds_nil _ _ _)
 case h_17=>
  unfold indexX at h
  repeat' split at h
  all_goals first|(simp at h;done)|(simp at h;subst h;exact cmds_nil _ _ _)
 case h_18=>
  unfold sliceX at h
  repeat' split at h
  all_goals first|(simp at h;done)|(simp at h;subst h;exact cmds_nil _ _ _)
 case h_19=>
  unfold makeX at h
  split at h
  ·rename_i et kl l kc c d _ _ _ hd
   split at h
   ·simp at h
   ·split at h
    ·split at h
     ·rename_i hok
      simp at h
      subst h
      simp only[Bool.and_eq_true] at hok
      exact Or.inr ⟨d,_,hd,rfl,hok.1.1.1⟩
     ·simp at h
    ·simp at h
  ·simp at h
 case h_20=>
  unfold builtinX lenX mmX at h
  repeat' split at h
  all_goals first|(simp at h;done)|(simp at h;subst h;exact cmds_nil _ _ _)
 case h_21=>
  split at h
  ·simp at h
  split at h
  ·unfold callN at h
   split at h
   ·simp only[Option.some.injEq] at h
    subst h
    exact cmds_nil _ _ _
   ·simp at h
  unfold callX at h
  split at h
  ·split at h
   ·simp only[Option.some.injEq] at h
    subst h
    by_cases hp:(‹List Sh›).all Sh.prim=true
    ·simp only[hp,if_true];exact cmds_nil _ _ _
    ·simp only[hp];exact Or.inl ⟨_,rfl⟩
   ·simp at h
  ·simp at h
 case h_22=>exact opy_cmds h
theorem opx_cmds (h:opx P cfg o pc ev rb nv=some out):CmdsOk rb pc o.dst out.cmds:=by
 rcases opx_cases h with ⟨_,rfl⟩|⟨_,h⟩|⟨_,_,h⟩
 ·exact cmds_nil _ _ _
 ·rw[(preX_out h).1];exact cmds_nil _ _ _
 ·exact opx0_cmds h
end
section
variable {P:Program} {cfg:Cfg} {N0:Nat→Prop} {w0:Wb} {ρ:List C} {S S':SS} {hv:Nat→Value} {a:Act} {w:World} {o:Oper} {Q:Exit→Act→World→Prop} {obs:List Ob}
/-- An operation that is not carried out. -/
theorem skip_sound (hrel:RelH P N0 w0 ρ S hv a w) {pc:Pres} (hp:¬presTrue ρ pc) {out:Out} (hc:CmdsOk S.rb pc o.dst out.cmds):
  ∃hv',RelH P N0 w0 ρ {tmps:=putT S.tmps o.dst ⟨pc,out.x⟩,blks:=runCmds out.cmds S.blks,nv:=S.nv+out.nv} hv' (a.put o.dst undef) w:=by
 rcases hc with ⟨f,hc⟩|⟨d,lb,hd,hc,hn⟩
 ·rw[hc]
  exact ⟨hv,((hrel.frzs f).put o.dst pc out.x undef (fun h=>absurd h hp) (fun _=>rfl)).nv _⟩
 ·rw[hc]
  have h1:=(hrel.new (isNew_blk hn) lb pc undef (Below.refl _ _) (fun g hg=>by simp[blkNo,undef] at hg) (fun h=>absurd h hp)).1
  exact ⟨_,(h1.put o.dst pc out.x undef (fun h=>absurd h hp) (fun _=>rfl)).nv _⟩
theorem guard_sound (hrel:RelH P N0 w0 ρ S hv a w) {ops:List Oper} {pc:Pres} (h:guardPres S ops o=some pc):
  (presTrue ρ pc→Region.wanted o (yielded ops.toArray a.tmps)=true)∧(¬presTrue ρ pc→Region.wanted o (yielded ops.toArray a.tmps)=false):=by
 unfold guardPres at h
 unfold Region.wanted
 split at h
 ·rename_i hg
  simp at h
  subst h
  rw[hg]
  exact ⟨fun _=>rfl,fun h=>absurd (presTrue_nil ρ) h⟩
 ·rename_i j want hg
  rw[hg]
  split at h
  ·rename_i p e ht
   simp at h
   subst h
   obtain ⟨d,hd,hts⟩:=Option.bind_eq_some_iff.1 ht
   have hlt:d<a.tmps.size:=by rw[hrel.tsz];exact (List.getElem?_eq_some_iff.1 hts).1
   have hy:∀v,a.tmps.getD d undef=v→yielded ops.toArray a.tmps j=(match v with| .bool b=>some b|_=>none):=by
    intro v hv
    have h1:a.tmps[d]?=some v:=by rw[Array.getElem?_eq_getElem hlt];simpa [Array.getD,hlt] using hv
    unfold yielded
    have h2:(ops.toArray[j]?).bind (·.dst)=some d:=by simpa using hd
    rw[h2]
    simp[h1]
    cases v<;>rfl
   constructor
   ·intro hp
    obtain ⟨h1,h2⟩:=presTrue_app.1 hp
    rw[presTrue_one] at h2
    have h3:=hrel.tmps d _ hts h1
    rw[RdX_bool] at h3
    simp[hy _ h3,h2]
   ·intro hp
    by_cases h1:presTrue ρ p
    ·have h3:=hrel.tmps d _ hts h1
     rw[RdX_bool] at h3
     have h4:¬(e.eval ρ).toBool=want:=fun h=>hp (presTrue_app.2 ⟨h1,presTrue_one.2 h⟩)
     simp[hy _ h3]
     exact h4
    ·have h3:=hrel.und d _ hts h1
     simp[hy _ h3,undef]
  ·simp at h
theorem opw_sound (hrel:RelH P N0 w0 ρ S hv a w) {x:SX} {bs':List Blk} (h:opw P cfg o (S.ev P) S.blks=some (x,bs',obs)) (ho:obsHold P ρ S.nv obs):
  o.wp P a w (fun a' w'=>∃hv',RelH P N0 w0 ρ {S with tmps:=putT S.tmps o.dst ⟨[],x⟩,blks:=bs'} hv' a' w') Q:=by
 unfold opw at h
 split at h
 ·rename_i t ad y hop
  split at h
  ·rename_i bs2 hb
   simp at h
   obtain ⟨rfl,rfl,rfl⟩:=h
   exact storeX_sound hrel hop hb
  ·simp at h
 ·rename_i args ts hop
  split at h
  ·rename_i x1 y1 d hargs hd
   obtain ⟨al⟩:=args
   simp only at hargs
   subst hargs
   exact appendX_sound hrel hop h ho
  ·simp at h
 ·rename_i args ts hop
  split at h
  ·rename_i x1 y1 hargs
   obtain ⟨al⟩:=args
   simp only at hargs
   subst hargs
   split at h
   ·rename_i x2 bs2 hb
    simp at h
    obtain ⟨rfl,rfl,rfl⟩:=h
    exact copyX_sound hrel hop hb
   ·simp at h
  ·simp at h
 ·rename_i src dst x1 hop
  split at h
  ·rename_i hsd
   subst hsd
   split at h
   ·rename_i s e r hb
    simp at h
    obtain ⟨rfl,rfl,rfl⟩:=h
    exact markX_sound hrel hop hb
   ·simp at h
  ·simp at h
 ·rename_i t m k x1 hop
  split at h
  ·rename_i r b hb
   simp at h
   obtain ⟨rfl,rfl,rfl⟩:=h
   exact mputX_sound hrel hop hb
  ·simp at h
 ·rename_i it hop
  split at h
  ·rename_i x1 r b hb
   simp at h
   obtain ⟨rfl,rfl,rfl⟩:=h
   exact nextX_sound hrel hop hb
  ·simp at h
 ·simp at h
/-- One operation, carried out or not. -/
theorem astep_sound (hrel:RelH P N0 w0 ρ S hv a w) {ops:List Oper} (h:astep P cfg ops o S=some (S',obs)) (ho:obsHold P ρ S.nv obs):
  if Region.wanted o (yielded ops.toArray a.tmps)=true then o.wp P a w (fun a' w'=>∃hv',RelH P N0 w0 ρ S' hv' a' w') Q else ∃hv',RelH P N0 w0 ρ S' hv' (a.put o.dst undef) w:=by
 unfold astep at h
 split at h
 ·simp at h
 ·rename_i pc hg
  obtain ⟨g1,g2⟩:=guard_sound hrel hg
  split at h
  ·split at h
   ·rename_i hpc
    subst hpc
    cases hw:opw P cfg o (S.ev P) S.blks with
    |none=>simp[hw] at h
    |some y=>
     obtain ⟨x,bs,ob⟩:=y
     simp[hw] at h
     obtain ⟨_,rfl,rfl⟩:=h
     rw[if_pos (g1 (presTrue_nil ρ))]
     exact opw_sound hrel hw ho
   ·simp at h
  ·split at h
   ·split at h
    ·rename_i hpc
     subst hpc
     cases hw:opg P cfg o (S.ev P) S.blks S.nv with
     |none=>simp[hw] at h
     |some y=>
      obtain ⟨x,bs,ob,n⟩:=y
      simp[hw] at h
      obtain ⟨_,rfl,rfl⟩:=h
      rw[if_pos (g1 (presTrue_nil ρ))]
      exact opg_sound hrel hw ho
    ·simp at h
   cases hx:opx P cfg o pc (S.ev P) S.rb S.nv with
   |none=>simp[hx] at h
   |some out=>
    simp[hx] at h
    obtain ⟨_,rfl,rfl⟩:=h
    by_cases hp:presTrue ρ pc
    ·rw[if_pos (g1 hp)]
     exact opx_sound hrel hp hx ho
    ·rw[if_neg (by rw[g2 hp];simp)]
     exact skip_sound hrel hp (opx_cmds hx)
/-- How many variables a step takes. -/
theorem astep_nv {ops:List Oper} (h:astep P cfg ops o S=some (S',obs)):S'.nv=S.nv+(obs.map Ob.vars).sum:=by
 unfold astep at h
 split at h
 ·simp at h
 ·split at h
  ·split at h
   ·split at h
    ·split at h
     ·rename_i hv
      simp at h
      obtain ⟨rfl,rfl⟩:=h
      simp only[obVars] at hv
      simp[hv]
     ·simp at h
    ·simp at h
   ·simp at h
  ·split at h
   ·split at h
    ·split at h
     ·split at h
      ·rename_i hv
       simp at h
       obtain ⟨rfl,rfl⟩:=h
       simp only[obVars] at hv
       simp[hv]
      ·simp at h
     ·simp at h
    ·simp at h
   split at h
   ·split at h
    ·rename_i hv
     simp at h
     obtain ⟨rfl,rfl⟩:=h
     simp only[obVars] at hv
     simp[hv]
    ·simp at h
   ·simp at h
/-- Operations one behind the other, in the order of the text. -/
theorem runOps_sound {ops:List Oper}:∀ {l:List Oper} {S S':SS} {hv:Nat→Value} {a:Act} {w:World} {obs:List Ob},RelH P N0 w0 ρ S hv a w→runOps P cfg ops l S=some (S',obs)→obsHold P ρ S.nv obs→
  (∀a' w',(∃hv',RelH P N0 w0 ρ S' hv' a' w')→Q .normal a' w')→wpList P ops.toArray Q l a w
 | [],S,S',hv,a,w,obs,hrel,h,ho,hq=>by
  simp[runOps] at h
  obtain ⟨rfl,rfl⟩:=h
  exact hq a w ⟨hv,hrel⟩
 |o::l,S,S',hv,a,w,obs,hrel,h,ho,hq=>by
  simp only[runOps] at h
  split at h
  ·simp at h
  ·rename_i S1 ob1 h1
   split at h
   ·simp at h
   ·rename_i S2 ob2 h2
    simp at h
    obtain ⟨rfl,rfl⟩:=h
    rw[obsHold_app] at ho
    have hst:=astep_sound (Q:=Q) hrel h1 ho.1
    have ho2:obsHold P ρ S1.nv ob2:=by rw[astep_nv h1];exact ho.2
    refine wpList_step fun K hK=>?_
    split
    ·rename_i hw
     rw[if_pos hw] at hst
     exact Oper.wp_mono (fun a' w' ⟨hv',hr'⟩=>hK a' w' (runOps_sound hr' h2 ho2 hq)) hst
    ·rename_i hw
     rw[if_neg hw] at hst
     obtain ⟨hv',hr'⟩:=hst
     exact hK _ _ (runOps_sound hr' h2 ho2 hq)
end
end Go.Vc

namespace Go.Vc
section
variable {P:Program} {cfg:Cfg} {rb rb':Rb} {ev ev':Ev} {pc:Pres} {nv nv':Nat} {o:Oper} {out:Out}
/-- On these operands both answer the same. -/
def EvEq (l:List Operand) (ev ev':Ev):Prop:=∀x∈l,∀pc t,ev pc x t=ev' pc x t
theorem argsX_congr:∀ {l:List Operand} {ts:List TypeId},EvEq l ev ev'→argsX ev rb pc l ts=argsX ev' rb pc l ts
 | [],_,_=>rfl
 |x::l,ts,h=>by
  simp only[argsX]
  rw[h x (by simp),argsX_congr (l:=l) fun y hy=>h y (by simp[hy])]
theorem buildX_congr {ft:Nat→TypeId}:∀ {l:List (Nat×Operand)} {m:List (Sh×E)},EvEq (l.map (·.2)) ev ev'→buildX ev rb pc ft m l=buildX ev' rb pc ft m l
 | [],_,_=>rfl
 |(i,x)::l,m,h=>by
  simp only[buildX]
  rw[h x (by simp)]
  have ih:∀m,buildX ev rb pc ft m l=buildX ev' rb pc ft m l:=fun m=>buildX_congr (l:=l) fun y hy=>h y (by simp[List.mem_map] at hy ⊢;exact .inr hy)
  simp only[ih]
theorem elemsX_congr {t:TypeId} {s:Sh}:∀ {l:List (Nat×Operand)} {k:Nat},EvEq (l.map (·.2)) ev ev'→elemsX ev rb pc t s k l=elemsX ev' rb pc t s k l
 | [],_,_=>rfl
 |(i,x)::l,k,h=>by
  simp only[elemsX]
  rw[h x (by simp),elemsX_congr (l:=l) fun y hy=>h y (by simp[List.mem_map] at hy ⊢;exact .inr hy)]
theorem builtinX_congr {b:Builtin} {l:List Operand} {ts:Array TypeId} (h:EvEq l ev ev'):builtinX P ev rb pc b l ts=builtinX P ev' rb pc b l ts:=by
 unfold builtinX
 split<;>simp_all[EvEq]
theorem callV_congr {t:TypeId} {f:Nat} {pre:List (Sh×E)} {args:List Operand} {ts:List TypeId} (h:EvEq args ev ev'):callV P cfg ev rb pc nv t f pre args ts=callV P cfg ev' rb pc nv t f pre args ts:=by
 unfold callV;rw[argsX_congr h]
theorem callX_congr {rs:Option (List Sh)} {f:Nat} {args:List Operand} {ts:List TypeId} (h:EvEq args ev ev'):callX P rs ev rb pc nv f args ts=callX P rs ev' rb pc nv f args ts:=by
 unfold callX;rw[argsX_congr h]
theorem callN_congr {t:TypeId} {f:Nat} {args:List Operand} {ts:List TypeId} (h:EvEq args ev ev'):callN P ev rb pc nv t f args ts=callN P ev' rb pc nv t f args ts:=by
 unfold callN;rw[argsX_congr h]
theorem preX_congr (h:EvEq o.op.operands.toList ev ev'):preX P o pc ev=preX P o pc ev':=by
 unfold preX
 generalize o.op=op at h
 cases op<;>simp only[Op.operands] at h<;>(try rfl)
 case makeFunc fn first captured=>
  cases fn with
  |method name=>
   simp only
   split
   ·rename_i x h1 h2
    have hx:∀pc t,ev pc x t=ev' pc x t:=h x (by simp[h1])
    simp only[hx]
   ·rfl
  |_=>rfl
 all_goals (simp_all[EvEq];done)
theorem opx0_congr (h:EvEq o.op.operands.toList ev ev'):opx0 P cfg o pc ev rb nv=opx0 P cfg o pc ev' rb nv:=by
 unfold opx0 opy
 generalize o.op=op at h
 cases op<;>simp only[Op.operands] at h<;>(try rfl)
 case build t ps=>
  simp only[buildSX]
  repeat' split
  all_goals first|rfl|skip
  all_goals simp_all[buildX_congr (rb:=rb) (pc:=pc) (l:=ps.toList) (by simpa using h)]
 case buildSlice t n ps=>
  have h':EvEq (ps.toList.map (·.2)) ev ev':=by simpa using h
  simp only[rowLitX,buildSlX,elemsX_congr h']
 case slice t x lo hi mx=>
  cases mx with
  |some _=>rfl
  |none=>
   have hx:∀pc t,ev pc x t=ev' pc x t:=h x (by simp)
   have hb:∀(d:E) (y:Option Operand),(∀z,y=some z→z∈ #[x]++lo.toArray++hi.toArray++(none:Option Operand).toArray)→boundX ev pc d y=boundX ev' pc d y:=by
    intro d y hy
    cases y with
    |none=>rfl
    |some z=>simp only[boundX];rw[h z (by simpa using hy z rfl)]
   simp only[sliceX]
   rw[hx,hb _ lo (fun z hz=>by subst hz;simp)]
   have hh:∀d,boundX ev pc d hi=boundX ev' pc d hi:=fun d=>hb d hi (fun z hz=>by subst hz;simp)
   simp only[hh]
 case call c=>
  obtain ⟨callee,args,ts⟩:=c
  have ha:EvEq args.toList ev ev':=fun x hx=>h x (by simp[Call.operands];exact .inr (by simpa using hx))
  cases callee with
  |builtin b=>
   exact builtinX_congr ha
  |value f=>
   have hf:∀pc t,ev pc f t=ev' pc f t:=h f (by simp[Call.operands])
   cases f with
   |func g=>simp only[callX_congr ha,callN_congr ha]
   |tmp i=>simp only[hf,callV_congr ha]
   |const v=>simp only[hf,callV_congr ha]
   |global g=>simp only[hf,callV_congr ha]
  |invoke r m=>
   have hr:∀pc t,ev pc r t=ev' pc r t:=h r (by simp[Call.operands])
   simp only[hr,callV_congr ha]
 case makeMap t r=>cases r<;>rfl
 all_goals (simp_all[EvEq];done)
theorem opx_congr (h:EvEq o.op.operands.toList ev ev'):opx P cfg o pc ev rb nv=opx P cfg o pc ev' rb nv:=by
 unfold opx
 rw[preX_congr h,opx0_congr h]
theorem opw_congr {bs:List Blk} (h:EvEq o.op.operands.toList ev ev'):opw P cfg o ev bs=opw P cfg o ev' bs:=by
 unfold opw
 generalize o.op=op at h
 cases op<;>simp only[Op.operands] at h<;>(try rfl)
 case store t a x=>
  simp only
  rw[h a (by simp),h x (by simp)]
 case call c=>
  obtain ⟨callee,args,ts⟩:=c
  have ha:EvEq args.toList ev ev':=fun x hx=>h x (by simp[Call.operands];exact .inr (by simpa using hx))
  cases callee with
  |builtin b=>
   cases b<;>simp only
   ·split
    ·rename_i x y d hl hd
     rw[ha x (by simp[hl]),ha y (by simp[hl])]
    ·rfl
   ·split
    ·rename_i x y hl
     rw[ha x (by simp[hl]),ha y (by simp[hl])]
    ·rfl
  |value f=>rfl
  |invoke r m=>rfl
 case convert src dst x=>
  simp only
  rw[h x (by simp)]
 case mapUpdate t m k x=>
  simp only
  rw[h m (by simp),h k (by simp),h x (by simp)]
 case next it b=>
  cases b with
  |true=>simp only;rw[h it (by simp)]
  |false=>rfl
theorem opg_congr {bs:List Blk} (h:EvEq o.op.operands.toList ev ev'):opg P cfg o ev bs nv=opg P cfg o ev' bs nv:=by
 unfold opg
 generalize o.op=op at h
 cases op<;>simp only[Op.operands] at h<;>(try rfl)
 case call c=>
  obtain ⟨callee,args,ts⟩:=c
  have ha:EvEq args.toList ev ev':=fun x hx=>h x (by simp[Call.operands];exact .inr (by simpa using hx))
  cases callee with
  |builtin b=>rfl
  |value f=>
   cases f with
   |func g=>
    cases hd:o.dst with
    |none=>rfl
    |some d=>
     simp only
     obtain ⟨al⟩:=args
     have e1:freshX P ev bs nv o.type d g al ts.toList=freshX P ev' bs nv o.type d g al ts.toList:=by
      unfold freshX
      rw[argsX_congr ha]
     have e2:growX P ev bs nv o.type d g al ts.toList=growX P ev' bs nv o.type d g al ts.toList:=by
      unfold growX
      cases al with
      |nil=>cases retsT P o.type with
       |none=>rfl
       |some l=>cases l with
        |nil=>rfl
        |cons s r=>cases s<;>rfl
      |cons x xs=>
       have h1:EvEq xs ev ev':=fun y hy=>ha y (by simp[hy])
       have h2:∀pc t,ev pc x t=ev' pc x t:=ha x (by simp)
       cases retsT P o.type with
       |none=>rfl
       |some l=>cases l with
        |nil=>rfl
        |cons s r=>cases s<;>first|rfl|(simp only;rw[argsX_congr h1,h2])
     simp only[e1,e2]
   |_=>rfl
  |invoke r m=>rfl
/-- What has been made is there as it was. -/
def RbLe (rb rb':Rb):Prop:=∀r b,rb r=some b→b.lb≠ .none→rb' r=some b
theorem rowOf_le (le:RbLe rb rb') {r:Nat} {y:Sh×E} (h:rowOf rb pc r=some y):rowOf rb' pc r=some y:=by
 unfold rowOf at h ⊢
 split at h
 ·rename_i s e p hr
  rw[le r _ hr (by simp)]
  exact h
 ·simp at h
theorem mapOf_le (le:RbLe rb rb') {r:Nat} {y:IntKind×Sh×E} (h:mapOf rb pc r=some y):mapOf rb' pc r=some y:=by
 unfold mapOf at h ⊢
 split at h
 ·rename_i k s e p hr
  rw[le r _ hr (by simp)]
  exact h
 ·simp at h
theorem mapRd_le (le:RbLe rb rb') {x:Option SX} {y:IntKind×Sh×E} (h:mapRd rb pc x=some y):mapRd rb' pc x=some y:=by
 unfold mapRd at h ⊢
 split at h
 ·exact h
 ·exact mapOf_le le h
 ·simp at h
theorem datOf_le (le:RbLe rb rb') {x:SX} {y:Sh×E×List Nat} (h:datOf rb pc x=some y):datOf rb' pc x=some y:=by
 unfold datOf at h ⊢
 split at h
 ·exact h
 ·split at h
  ·rename_i hr;rw[rowOf_le le hr];exact h
  ·simp at h
 ·split at h
  ·rename_i hr;rw[rowOf_le le hr];exact h
  ·simp at h
 ·exact h
 ·split at h
  ·rename_i hr;rw[mapOf_le le hr];exact h
  ·simp at h
 ·simp at h
theorem leafX_le (le:RbLe rb rb') {s:Sh} {l:List SX} {y:E×List Nat×List SX} (h:leafX rb pc s l=some y):leafX rb' pc s l=some y:=by
 cases l with
 |nil=>simp[leafX] at h
 |cons x l=>
  simp only[leafX] at h ⊢
  split at h
  ·rename_i hd;rw[datOf_le le hd];exact h
  ·simp at h
theorem unflat_le (le:RbLe rb rb'):∀ {s:Sh} {l:List SX} {y:E×List Nat×List SX},unflat rb pc s l=some y→unflat rb' pc s l=some y
 | .unit,_,_,h=>by simpa [unflat] using h
 | .pair a b,l,y,h=>by
  simp only[unflat] at h ⊢
  split at h
  ·rename_i hb
   rw[if_pos hb]
   split at h
   ·rename_i x f r h1
    rw[unflat_le le h1]
    simp only
    split at h
    ·rename_i h2
     rw[unflat_le le h2]
     exact h
    ·simp at h
   ·simp at h
  ·simp at h
 | .int k,_,_,h=>by simp only[unflat] at h ⊢;exact leafX_le le h
 | .bool,_,_,h=>by simp only[unflat] at h ⊢;exact leafX_le le h
 | .str,_,_,h=>by simp only[unflat] at h ⊢;exact leafX_le le h
 | .sl s,_,_,h=>by simp only[unflat] at h ⊢;exact leafX_le le h
 | .ifc _ s,_,_,h=>by simp only[unflat] at h ⊢;exact leafX_le le h
 | .nili,_,_,h=>by simp only[unflat] at h ⊢;exact leafX_le le h
 | .fun_ _,_,_,h=>by simp only[unflat] at h ⊢;exact leafX_le le h
 | .mp _ s,_,_,h=>by simp only[unflat] at h ⊢;exact leafX_le le h
theorem bind_le (le:RbLe rb rb') {x:Option SX} {y:Sh×E×List Nat} (h:x.bind (datOf rb pc)=some y):x.bind (datOf rb' pc)=some y:=by
 cases x with
 |none=>simp at h
 |some x=>exact datOf_le le h
theorem argsX_le (le:RbLe rb rb'):∀ {l:List Operand} {ts:List TypeId} {y:List (Sh×E)×List Nat},argsX ev rb pc l ts=some y→argsX ev rb' pc l ts=some y
 | [],_,_,h=>h
 |x::l,ts,y,h=>by
  simp only[argsX] at h ⊢
  split at h
  ·rename_i h1 h2
   rw[bind_le le h1,argsX_le le h2]
   exact h
  ·simp at h
theorem buildX_le (le:RbLe rb rb') {ft:Nat→TypeId}:∀ {l:List (Nat×Operand)} {m:List (Sh×E)} {y:List (Sh×E)×List Nat},buildX ev rb pc ft m l=some y→buildX ev rb' pc ft m l=some y
 | [],_,_,h=>h
 |(i,x)::l,m,y,h=>by
  simp only[buildX] at h ⊢
  split at h
  ·rename_i h1 h2
   rw[bind_le le h1,h2]
   simp only
   split at h
   ·rename_i hs
    rw[if_pos hs]
    cases hb:buildX ev rb pc ft (m.set i _) l with
    |none=>rw[hb] at h;simp at h
    |some z=>
     rw[buildX_le le hb]
     rw[hb] at h
     exact h
   ·simp at h
  ·simp at h
theorem elemsX_le (le:RbLe rb rb') {t:TypeId} {s:Sh}:∀ {l:List (Nat×Operand)} {k:Nat} {y:E×List Nat},elemsX ev rb pc t s k l=some y→elemsX ev rb' pc t s k l=some y
 | [],_,_,h=>h
 |(i,x)::l,k,y,h=>by
  simp only[elemsX] at h ⊢
  split at h
  ·simp at h
  ·rename_i hi
   rw[if_neg hi]
   split at h
   ·rename_i h1 h2
    rw[bind_le le h1,elemsX_le le h2]
    exact h
   ·simp at h
theorem liveR_le (le:RbLe rb rb') {r:Nat} (h:liveR rb pc r=true):liveR rb' pc r=true:=by
 unfold liveR at h ⊢
 split at h
 ·rename_i hr;rw[le r _ hr (by simp)];exact h
 ·rename_i hr;rw[le r _ hr (by simp)];exact h
 ·simp at h
/-- More blocks: an operation answers as before. -/
theorem callV_le (le:RbLe rb rb') {t:TypeId} {f:Nat} {pre:List (Sh×E)} {args:List Operand} {ts:List TypeId} (h:callV P cfg ev rb pc nv t f pre args ts=some out):callV P cfg ev rb' pc nv t f pre args ts=some out:=by
 unfold callV at h ⊢
 split at h
 ·rename_i h1 h2
  rw[argsX_le le h1]
  simpa [h2] using h
 ·simp at h
theorem opy_le (le:RbLe rb rb') (hn:∀d,o.dst=some d→isNew rb d=true→isNew rb' d=true) (h:opy P cfg o pc ev rb nv=some out):opy P cfg o pc ev rb' nv=some out:=by
 unfold opy at h ⊢
 split at h
 ·split at h
  ·split at h
   ·exact callV_le le h
   ·simp at h
  ·simp at h
 ·simp at h
 ·split at h
  ·exact callV_le le h
  ·simp at h
 ·split at h
  ·rename_i h1 h2 h3
   simp only[h1,h2,mapRd_le le h3]
   exact h
  ·simp at h
 ·split at h
  ·rename_i d h1 h2
   split at h
   ·rename_i hs
    split at h
    ·rename_i hok
     simp only[Bool.and_eq_true] at hok
     simpa [hn _ h2 hok.1,hok.2] using h
    ·simp at h
   ·simp at h
  ·simp at h
 ·split at h
  ·rename_i h1 h2 h3
   split at h
   ·rename_i hok
    simpa [hn _ h3 hok] using h
   ·simp at h
  ·simp at h
 ·simp at h
theorem opx0_le (le:RbLe rb rb') (hn:∀d,o.dst=some d→isNew rb d=true→isNew rb' d=true) (h:opx0 P cfg o pc ev rb nv=some out):opx0 P cfg o pc ev rb' nv=some out:=by
 unfold opx0 at h ⊢
 split at h
 case h_1=>exact h
 case h_2=>exact h
 case h_3=>exact h
 case h_4=>exact h
 case h_5=>exact h
 case h_6=>
  unfold convX at h ⊢
  split at h
  ·simp_all
  ·simp_all
  ·split at h
   ·rename_i h1 h2
    simp_all[datOf_le le h2]
   ·simp at h
  ·simp_all
  ·simp at h
 case h_7=>exact h
 case h_8=>exact h
 case h_9=>
  unfold buildSX at h ⊢
  split at h
  ·rename_i h1 h2
   (try rw[h1];try rw[h2])
   try simp only
   split at h
   ·rename_i hs
    (try rw[if_pos hs])
    split at h
    ·rename_i l hl
     (try rw[hl])
     try simp only
     split at h
     ·rename_i hb
      (try rw[buildX_le le hb])
      exact h
     ·simp at h
    ·simp at h
   ·simp at h
  ·simp at h
 case h_10=>
  split at h
  ·rename_i hr
   (try rw[if_pos hr])
   unfold rowLitX at h ⊢
   split at h
   ·rename_i et d h1 hd
    (try rw[h1];try rw[hd])
    try simp only
    split at h
    ·simp at h
    ·rename_i s hs
     (try rw[hs])
     try simp only
     split at h
     ·rename_i hok
      have hok':=hok
      simp only[Bool.and_eq_true] at hok'
      (try rw[if_pos (by simp only[Bool.and_eq_true];exact ⟨⟨⟨⟨⟨hn d hd hok'.1.1.1.1.1,hok'.1.1.1.1.2⟩,hok'.1.1.1.2⟩,hok'.1.1.2⟩,hok'.1.2⟩,hok'.2⟩)])
      split at h
      ·rename_i he
       (try rw[elemsX_le le he])
       exact h
      ·simp at h
     ·simp at h
   ·simp at h
  ·rename_i hr
   (try rw[if_neg hr])
   unfold buildSlX at h ⊢
   split at h
   ·simp at h
   ·rename_i et h1
    (try rw[h1])
    try simp only
    split at h
    ·simp at h
    ·rename_i s hs
     (try rw[hs])
     try simp only
     split at h
     ·rename_i hok
      (try rw[if_pos hok])
      split at h
      ·rename_i he
       (try rw[elemsX_le le he])
       exact h
      ·simp at h
     ·simp at h
 case h_11=>
  unfold allocX at h ⊢
  split at h
  ·rename_i s d h1 hd
   (try rw[h1];try rw[hd])
   try simp only
   split at h
   ·rename_i e he
    (try rw[he])
    try simp only
    split at h
    ·rename_i hok
     simp only[Bool.and_eq_true] at hok
     (try rw[if_pos (by simp only[Bool.and_eq_true];exact ⟨⟨hn d hd hok.1.1,hok.1.2⟩,hok.2⟩)])
     exact h
    ·simp at h
   ·simp at h
  ·simp at h
 case h_12=>
  unfold boxX at h ⊢
  split at h
  ·rename_i s e d hx hd
   (try rw[hx];try rw[hd])
   try simp only
   split at h
   ·rename_i hok
    simp only[Bool.and_eq_true] at hok
    (try rw[if_pos (by simp only[Bool.and_eq_true];exact ⟨hn d hd hok.1,hok.2⟩)])
    exact h
   ·simp at h
  ·rename_i r n d hx hd
   (try rw[hx];try rw[hd])
   try simp only
   split at h
   ·rename_i s e hr
    (try rw[rowOf_le le hr])
    try simp only
    split at h
    ·rename_i hok
     simp only[Bool.and_eq_true] at hok
     (try rw[if_pos (by simp only[Bool.and_eq_true];exact ⟨hn d hd hok.1,hok.2⟩)])
     exact h
    ·simp at h
   ·simp at h
  ·simp at h
 case h_13=>
  unfold loadX at h ⊢
  split at h
  ·rename_i hx;(try rw[hx]);exact h
  ·rename_i hx
   (try rw[hx])
   try simp only
   split at h
   ·rename_i hf
    (try rw[if_pos hf])
    split at h
    ·rename_i hr;(try rw[le _ _ hr (by simp)]);exact h
    ·rename_i hr
     (try rw[le _ _ hr (by simp)])
     try simp only
     split at h
     ·rename_i hp
      (try rw[if_pos hp])
      split at h
      ·rename_i ha
       (try rw[if_pos ha])
       split at h
       ·rename_i hu;(try rw[unflat_le le hu]);exact h
       ·simp at h
      ·rename_i ha
       (try rw[if_neg ha])
       exact h
     ·simp at h
    ·simp at h
   ·simp at h
  ·simp at h
 case h_14=>
  unfold nilX at h ⊢
  split at h
  ·rename_i hx
   (try rw[hx])
   try simp only
   split at h
   ·rename_i hl;(try rw[if_pos (liveR_le le hl)]);exact h
   ·simp at h
  ·rename_i hx;(try rw[hx]);exact h
  ·rename_i hx;(try rw[hx]);exact h
  ·simp at h
 case h_15=>
  unfold faddrX at h ⊢
  split at h
  ·rename_i hx ht
   (try rw[hx];try rw[ht])
   try simp only
   split at h
   ·rename_i h1 h2
    (try rw[h1];try rw[h2])
    try simp only
    split at h
    ·rename_i hok
     simp only[Bool.and_eq_true] at hok
     (try rw[if_pos (by simp only[Bool.and_eq_true];exact ⟨hok.1,liveR_le le hok.2⟩)])
     split at h
     ·rename_i hr;(try rw[le _ _ hr (by simp)]);exact h
     ·rename_i hr;(try rw[le _ _ hr (by simp)]);exact h
     ·simp at h
    ·simp at h
   ·simp at h
  ·rename_i hx ht;(try rw[hx];try rw[ht]);exact h
  ·simp at h
 case h_16=>
  unfold iaddrX at h ⊢
  split at h
  ·rename_i h1 h2 h3;(try rw[h1];try rw[h2];try rw[h3]);exact h
  ·rename_i h1 h2 h3
   (try rw[h1];try rw[h2];try rw[h3])
   try simp only
   split at h
   ·rename_i hr;(try rw[rowOf_le le hr]);exact h
   ·simp at h
  ·rename_i h1 h2 h3
   (try rw[h1];try rw[h2];try rw[h3])
   try simp only
   split at h
   ·rename_i hr;(try rw[rowOf_le le hr]);exact h
   ·simp at h
  ·simp at h
 case h_17=>exact h
 case h_18=>
  unfold sliceX at h ⊢
  split at h
  ·rename_i h1 h2 h3;(try rw[h1];try rw[h2];try rw[h3]);exact h
  ·rename_i h1 h2 h3;(try rw[h1];try rw[h2];try rw[h3]);exact h
  ·rename_i h1 h2 h3
   (try rw[h1];try rw[h2];try rw[h3])
   try simp only
   split at h
   ·rename_i hr hb;(try rw[rowOf_le le hr];try rw[hb]);exact h
   ·simp at h
  ·rename_i h1 h2 h3
   (try rw[h1];try rw[h2];try rw[h3])
   try simp only
   split at h
   ·rename_i hr hb;(try rw[rowOf_le le hr];try rw[hb]);exact h
   ·simp at h
  ·simp at h
 case h_19=>
  unfold makeX at h ⊢
  split at h
  ·rename_i et kl l kc c d h1 h2 h3 hd
   (try rw[h1];try rw[h2];try rw[h3];try rw[hd])
   try simp only
   split at h
   ·simp at h
   ·rename_i s hs
    (try rw[hs])
    try simp only
    split at h
    ·rename_i z hz
     (try rw[hz])
     try simp only
     split at h
     ·rename_i hok
      simp only[Bool.and_eq_true] at hok
      (try rw[if_pos (by simp only[Bool.and_eq_true];exact ⟨⟨⟨hn d hd hok.1.1.1,hok.1.1.2⟩,hok.1.2⟩,hok.2⟩)])
      exact h
     ·simp at h
    ·simp at h
  ·simp at h
 case h_20=>
  unfold builtinX at h ⊢
  split at h
  ·unfold lenX at h ⊢
   split at h
   ·rename_i h1 h2;(try rw[h1];try rw[h2]);exact h
   ·rename_i h1 h2;(try rw[h1];try rw[h2]);exact h
   ·rename_i h1 h2
    (try rw[h1];try rw[h2])
    try simp only
    split at h
    ·rename_i hr;(try rw[rowOf_le le hr]);exact h
    ·simp at h
   ·rename_i h1 h2
    (try rw[h1];try rw[h2])
    try simp only
    split at h
    ·rename_i hr;(try rw[rowOf_le le hr]);exact h
    ·simp at h
   ·simp at h
  ·simp_all
  ·simp_all
  ·simp at h
 case h_21=>
  split at h
  ·simp at h
  ·rename_i hown
   rw[if_neg hown]
   split at h
   ·rename_i hnil
    rw[if_pos hnil]
    unfold callN at h ⊢
    split at h
    ·rename_i h1 h2
     (try rw[argsX_le le h1];try rw[h2])
     exact h
    ·simp at h
   ·rename_i hnil
    rw[if_neg hnil]
    unfold callX at h ⊢
    split at h
    ·rename_i h1 h2
     (try rw[argsX_le le h1];try rw[h2])
     exact h
    ·simp at h
 case h_22=>exact opy_le le hn h
theorem opx_le (le:RbLe rb rb') (hn:∀d,o.dst=some d→isNew rb d=true→isNew rb' d=true) (h:opx P cfg o pc ev rb nv=some out):opx P cfg o pc ev rb' nv=some out:=by
 rcases opx_cases h with ⟨hf,rfl⟩|⟨hf,hx⟩|⟨hf,hx,h⟩
 ·unfold opx;rw[if_pos hf]
 ·unfold opx;rw[if_neg (by simp[hf]),hx]
 ·unfold opx;rw[if_neg (by simp[hf]),hx];exact opx0_le le hn h
/-- What a class of operations asks and does. -/
theorem opx0_nv (h:cls cfg o≠ .call):opx0 P cfg o pc ev rb nv=opx0 P cfg o pc ev rb nv':=by
 unfold opx0 opy
 unfold cls at h
 generalize o.op=op at h
 cases op<;>(try rfl)
 case slice t x lo hi mx=>cases mx<;>rfl
 case makeMap t r=>cases r<;>rfl
 case call c=>
  obtain ⟨callee,args,ts⟩:=c
  cases callee with
  |builtin b=>rfl
  |value f=>
   cases f with
   |func g=>
    simp only at h ⊢
    by_cases hown:cfg.owns g=true
    ·simp[hown]
    ·simp[hown] at h
   |_=>first|rfl|(exact absurd rfl h)
  |invoke r m=>exact absurd rfl h
theorem opx_nv (h:cls cfg o≠ .call):opx P cfg o pc ev rb nv=opx P cfg o pc ev rb nv':=by
 unfold opx;rw[opx0_nv h]
theorem opx0_P (h:cls cfg o= .P):opx0 P cfg o pc ev rb nv=opx0 P cfg o pc ev rb' nv:=by
 unfold opx0 opy
 unfold cls at h
 generalize o.op=op at h
 cases op<;>(try rfl)<;>(try simp at h)
 case buildSlice t n ps=>split at h<;>simp at h
 case convert t u x=>split at h<;>(try split at h)<;>simp at h
 case call c=>
  obtain ⟨callee,args,ts⟩:=c
  cases callee with
  |builtin b=>
   have hh:∀(b:Builtin) (l:List Operand) (ts:Array TypeId),b≠ .len→builtinX P ev rb pc b l ts=builtinX P ev rb' pc b l ts:=by
    intro b l ts hb
    unfold builtinX
    split<;>first|rfl|exact absurd rfl hb
   refine hh b _ _ fun e=>?_
   subst e
   simp at h
  |value f=>
   cases f with
   |func g=>simp only at h;split at h<;>cases h
   |_=>simp at h
  |invoke r m=>simp at h
theorem opx_P (h:cls cfg o= .P):opx P cfg o pc ev rb nv=opx P cfg o pc ev rb' nv:=by
 unfold opx;rw[opx0_P h]
theorem opx0_A (h:cls cfg o= .A) (hn:∀d,o.dst=some d→isNew rb d=isNew rb' d):opx0 P cfg o pc ev rb nv=opx0 P cfg o pc ev rb' nv:=by
 unfold opx0 opy
 unfold cls at h
 generalize o.op=op at h
 cases op<;>(try rfl)<;>(try simp at h)
 case buildSlice t n ps=>split at h<;>simp at h
 case convert t u x=>split at h<;>(try split at h)<;>simp at h
 case alloc t=>
  simp only[allocX]
  split
  ·rename_i s d hs hd
   rw[hn d hd]
  ·rfl
 case makeSlice t l c=>
  simp only[makeX]
  split
  ·rename_i hd
   rw[hn _ hd]
  ·rfl
 case makeMap t r=>
  cases r with
  |some _=>rfl
  |none=>
   simp only
   split
   ·rename_i hd
    rw[hn _ hd]
   ·rfl
 case call c=>
  obtain ⟨callee,args,ts⟩:=c
  cases callee with
  |builtin b=>cases b<;>simp at h
  |value f=>
   cases f with
   |func g=>simp only at h;split at h<;>cases h
   |_=>simp at h
  |invoke r m=>simp at h
theorem opx_A (h:cls cfg o= .A) (hn:∀d,o.dst=some d→isNew rb d=isNew rb' d):opx P cfg o pc ev rb nv=opx P cfg o pc ev rb' nv:=by
 unfold opx;rw[opx0_A h hn]
end
end Go.Vc

namespace Go.Vc
section
variable {P:Program} {cfg:Cfg} {rb rb':Rb} {ev ev':Ev} {pc:Pres} {nv nv':Nat} {o:Oper} {out:Out}
def Made (rb:Rb) (r:Nat):Prop:=∃b,rb r=some b∧b.lb≠ .none
def FrzOk (rb:Rb) (f:List Nat):Prop:=∀r∈f,Made rb r
theorem FrzOk.nil:FrzOk rb []:=fun _ h=>by cases h
theorem FrzOk.app {f g:List Nat} (h:FrzOk rb f) (h':FrzOk rb g):FrzOk rb (f++g):=fun r hr=>(List.mem_append.1 hr).elim (h r) (h' r)
theorem rowOf_made {r:Nat} {y:Sh×E} (h:rowOf rb pc r=some y):Made rb r:=by
 unfold rowOf at h
 split at h
 ·rename_i s e p hr
  exact ⟨_,hr,by simp⟩
 ·simp at h
theorem mapOf_made {r:Nat} {y:IntKind×Sh×E} (h:mapOf rb pc r=some y):Made rb r:=by
 unfold mapOf at h
 split at h
 ·rename_i hr
  exact ⟨_,hr,by simp⟩
 ·simp at h
theorem datOf_frz {x:SX} {s:Sh} {e:E} {f:List Nat} (h:datOf rb pc x=some (s,e,f)):FrzOk rb f:=by
 unfold datOf at h
 split at h
 ·simp at h;rw[h.2.2];exact FrzOk.nil
 ·split at h
  ·rename_i hr
   simp at h
   rw[h.2.2.symm]
   intro r hr'
   simp at hr'
   subst hr'
   exact rowOf_made hr
  ·simp at h
 ·split at h
  ·rename_i hr
   simp at h
   rw[h.2.2.symm]
   intro r hr'
   simp at hr'
   subst hr'
   exact rowOf_made hr
  ·simp at h
 ·simp at h;rw[h.2.2];exact FrzOk.nil
 ·split at h
  ·rename_i hr
   simp at h
   rw[h.2.2.symm]
   intro r hr'
   simp at hr'
   subst hr'
   exact mapOf_made hr
  ·simp at h
 ·simp at h
theorem bind_frz {x:Option SX} {s:Sh} {e:E} {f:List Nat} (h:x.bind (datOf rb pc)=some (s,e,f)):FrzOk rb f:=by
 cases x with
 |none=>simp at h
 |some x=>exact datOf_frz h
theorem leafX_frz {s:Sh} {l r:List SX} {e:E} {f:List Nat} (h:leafX rb pc s l=some (e,f,r)):FrzOk rb f:=by
 cases l with
 |nil=>simp[leafX] at h
 |cons x l=>
  simp only[leafX] at h
  split at h
  ·rename_i hd
   split at h
   ·simp at h
    rw[h.2.1.symm]
    exact datOf_frz hd
   ·simp at h
  ·simp at h
theorem unflat_frz:∀ {s:Sh} {l r:List SX} {e:E} {f:List Nat},unflat rb pc s l=some (e,f,r)→FrzOk rb f
 | .unit,_,_,_,_,h=>by simp[unflat] at h;rw[h.2.1];exact FrzOk.nil
 | .pair a b,l,_,_,_,h=>by
  simp only[unflat] at h
  split at h
  ·split at h
   ·rename_i h1
    split at h
    ·rename_i h2
     simp at h
     rw[h.2.1.symm]
     exact (unflat_frz h1).app (unflat_frz h2)
    ·simp at h
   ·simp at h
  ·simp at h
 | .int k,_,_,_,_,h=>by simp only[unflat] at h;exact leafX_frz h
 | .bool,_,_,_,_,h=>by simp only[unflat] at h;exact leafX_frz h
 | .str,_,_,_,_,h=>by simp only[unflat] at h;exact leafX_frz h
 | .sl s,_,_,_,_,h=>by simp only[unflat] at h;exact leafX_frz h
 | .ifc _ s,_,_,_,_,h=>by simp only[unflat] at h;exact leafX_frz h
 | .nili,_,_,_,_,h=>by simp only[unflat] at h;exact leafX_frz h
 | .fun_ _,_,_,_,_,h=>by simp only[unflat] at h;exact leafX_frz h
 | .mp _ s,_,_,_,_,h=>by simp only[unflat] at h;exact leafX_frz h
theorem argsX_frz:∀ {l:List Operand} {ts:List TypeId} {m:List (Sh×E)} {f:List Nat},argsX ev rb pc l ts=some (m,f)→FrzOk rb f
 | [],_,_,_,h=>by simp[argsX] at h;rw[h.2];exact FrzOk.nil
 |x::l,ts,_,_,h=>by
  simp only[argsX] at h
  split at h
  ·rename_i h1 h2
   simp at h
   rw[h.2.symm]
   exact (bind_frz h1).app (argsX_frz h2)
  ·simp at h
theorem buildX_frz {ft:Nat→TypeId}:∀ {l:List (Nat×Operand)} {m m':List (Sh×E)} {f:List Nat},buildX ev rb pc ft m l=some (m',f)→FrzOk rb f
 | [],_,_,_,h=>by simp[buildX] at h;rw[h.2];exact FrzOk.nil
 |(i,x)::l,m,_,_,h=>by
  simp only[buildX] at h
  split at h
  ·rename_i h1 h2
   split at h
   ·cases hb:buildX ev rb pc ft (m.set i _) l with
    |none=>rw[hb] at h;simp at h
    |some z=>
     obtain ⟨m2,g⟩:=z
     rw[hb] at h
     simp at h
     rw[h.2.symm]
     exact (bind_frz h1).app (buildX_frz hb)
   ·simp at h
  ·simp at h
theorem elemsX_frz {t:TypeId} {s:Sh}:∀ {l:List (Nat×Operand)} {k:Nat} {e:E} {f:List Nat},elemsX ev rb pc t s k l=some (e,f)→FrzOk rb f
 | [],_,_,_,h=>by simp[elemsX] at h;rw[h.2];exact FrzOk.nil
 |(i,x)::l,k,_,_,h=>by
  simp only[elemsX] at h
  split at h
  ·simp at h
  ·split at h
   ·rename_i h1 h2
    split at h
    ·simp at h
     rw[h.2.symm]
     exact (bind_frz h1).app (elemsX_frz h2)
    ·simp at h
   ·simp at h
/-- What an operation does to the blocks, by its class. -/
def ClsOk (rb:Rb) (pc:Pres) (dst:Option Tmp) (c:Cls) (out:Out):Prop:=
 (c≠ .call→out.nv=0)∧
 ((∃f,out.cmds=f.map Cmd.frz∧FrzOk rb f∧(c= .P→f=[]))∨∃d lb,dst=some d∧out.cmds=[Cmd.put d ⟨lb,false,pc⟩]∧isNew rb d=true∧(c= .A∨c= .L))
theorem ClsOk.plain {dst:Option Tmp} {c:Cls} {x:SX} {obs:List Ob}:ClsOk rb pc dst c {x,obs}:=⟨fun _=>rfl,.inl ⟨[],rfl,FrzOk.nil,fun _=>rfl⟩⟩
theorem ClsOk.frz {dst:Option Tmp} {c:Cls} {x:SX} {obs:List Ob} {f:List Nat} (h:FrzOk rb f) (hc:c≠ .P):ClsOk rb pc dst c {x,obs,cmds:=f.map .frz}:=
 ⟨fun _=>rfl,.inl ⟨f,rfl,h,fun e=>absurd e hc⟩⟩
theorem ClsOk.put {c:Cls} {x:SX} {obs:List Ob} {d:Nat} {lb:LB} {dst:Option Tmp} (hd:dst=some d) (h:isNew rb d=true) (hc:c= .A∨c= .L):
  ClsOk rb pc dst c {x,obs,cmds:=[.put d ⟨lb,false,pc⟩]}:=⟨fun _=>rfl,.inr ⟨d,lb,hd,rfl,h,hc⟩⟩
theorem binX_cls {raw:Bool} {op:BinOp} {xt:TypeId} {s s':Sh} {x y:E} {dst:Option Tmp} {c:Cls} (h:binX P raw pc op xt s x s' y=some out):ClsOk rb pc dst c out:=by
 unfold binX at h
 repeat' split at h
 all_goals first|(simp at h;done)|(simp at h;subst h;exact ClsOk.plain)|(injection h with h;subst h;exact ClsOk.plain)
theorem callV_cls {t:TypeId} {f:Nat} {pre:List (Sh×E)} {args:List Operand} {ts:List TypeId} {d:Option Tmp} (h:callV P cfg ev rb pc nv t f pre args ts=some out):ClsOk rb pc d .call out:=by
 unfold callV at h
 split at h
 ·rename_i l frz rets h1 h2
  split at h
  ·simp only[Option.some.injEq] at h
   subst h
   refine ⟨fun e=>absurd rfl e,.inl ?_⟩
   by_cases hp:rets.all Sh.prim=true
   ·simp only[hp,if_true];exact ⟨[],rfl,FrzOk.nil,fun _=>rfl⟩
   ·simp only[hp];exact ⟨frz,rfl,argsX_frz h1,fun e=>by cases e⟩
  ·simp at h
 ·simp at h
theorem opy_cls (h:opy P cfg o pc ev rb nv=some out):ClsOk rb pc o.dst (cls cfg o) out:=by
 unfold opy at h
 split at h
 ·rename_i hop
  have hc:cls cfg o= .call:=by simp[cls,hop]
  rw[hc]
  repeat' split at h
  all_goals first|exact callV_cls h|simp at h
 ·simp at h
 ·rename_i x args ts hx hop
  have hc:cls cfg o= .call:=by
   cases x with
   |func g=>exact (hx g rfl).elim
   |_=>simp[cls,hop]
  rw[hc]
  repeat' split at h
  all_goals first|exact callV_cls h|simp at h
 ·repeat' split at h
  all_goals first|(simp at h;done)|(injection h with h;subst h;exact ClsOk.plain)
 ·rename_i hop
  have hc:cls cfg o= .A:=by simp[cls,hop]
  rw[hc]
  split at h
  ·rename_i d _ hd
   split at h
   ·split at h
    ·rename_i hok
     simp only[Bool.and_eq_true] at hok
     injection h with h
     subst h
     exact ClsOk.put hd hok.1 (.inl rfl)
    ·simp at h
   ·simp at h
  ·simp at h
 ·rename_i hop
  have hc:cls cfg o= .L:=by simp[cls,hop]
  rw[hc]
  split at h
  ·rename_i d _ _ hd
   split at h
   ·rename_i hok
    injection h with h
    subst h
    exact ClsOk.put hd hok (.inr rfl)
   ·simp at h
  ·simp at h
 ·simp at h
theorem opx0_cls (h:opx0 P cfg o pc ev rb nv=some out):ClsOk rb pc o.dst (cls cfg o) out:=by
 unfold opx0 at h
 split at h
 case h_1=>split at h<;>simp at h;subst h;exact ClsOk.plain
 case h_2=>split at h<;>simp at h;subst h;exact ClsOk.plain
 case h_3=>
  unfold pickX at h
  repeat' split at h
  all_goals first|(simp at h;done)|(simp at h;subst h;exact ClsOk.plain)
 case h_4=>
  split at h
  ·exact binX_cls h
  ·simp at h
 case h_5=>
  unfold unX at h
  split at h<;>first|(simp at h;done)|(simp at h;subst h;exact ClsOk.plain)
 case h_6=>
  unfold convX at h
  repeat' split at h
  all_goals first|(simp at h;done)|(simp at h;subst h;exact ClsOk.plain)
 case h_7=>
  repeat' split at h
  all_goals first|(simp at h;done)|(simp at h;subst h;exact ClsOk.plain)
 case h_8=>
  unfold fieldX at h
  repeat' split at h
  all_goals first|(simp at h;done)|(simp at h;subst h;exact ClsOk.plain)
 case h_9=>
  rename_i hop
  have hc:cls cfg o≠ .P:=by simp[cls,hop]
  unfold buildSX at h
  split at h
  ·split at h
   ·split at h
    ·split at h
     ·rename_i hb
      simp at h
      subst h
      exact ClsOk.frz (buildX_frz hb) hc
     ·simp at h
    ·simp at h
   ·simp at h
  ·simp at h
 case h_10=>
  rename_i hop
  split at h
  ·rename_i hl
   have hc:cls cfg o= .L:=by simp[cls,hop,hl]
   unfold rowLitX at h
   split at h
   ·rename_i et d _ hd
    split at h
    ·simp at h
    ·split at h
     ·rename_i hok
      split at h
      ·simp at h
       subst h
       simp only[Bool.and_eq_true] at hok
       exact ClsOk.put hd hok.1.1.1.1.1 (.inr hc)
      ·simp at h
     ·simp at h
   ·simp at h
  ·rename_i hl
   have hc:cls cfg o≠ .P:=by simp[cls,hop,hl]
   unfold buildSlX at h
   split at h
   ·simp at h
   ·split at h
    ·simp at h
    ·split at h
     ·split at h
      ·rename_i hb
       simp at h
       subst h
       exact ClsOk.frz (elemsX_frz hb) hc
      ·simp at h
     ·simp at h
 case h_11=>
  rename_i hop
  have hc:cls cfg o= .A:=by simp[cls,hop]
  unfold allocX at h
  split at h
  ·rename_i s d _ hd
   split at h
   ·split at h
    ·rename_i hok
     simp at h
     subst h
     simp only[Bool.and_eq_true] at hok
     exact ClsOk.put hd hok.1.1 (.inl hc)
    ·simp at h
   ·simp at h
  ·simp at h
 case h_12=>
  rename_i hop
  have hc:cls cfg o= .L:=by simp[cls,hop]
  unfold boxX at h
  split at h
  ·rename_i s e d _ hd
   split at h
   ·rename_i hok
    simp at h
    subst h
    simp only[Bool.and_eq_true] at hok
    exact ClsOk.put hd hok.1 (.inr hc)
   ·simp at h
  ·rename_i r n d _ hd
   split at h
   ·split at h
    ·rename_i hok
     simp at h
     subst h
     simp only[Bool.and_eq_true] at hok
     exact ClsOk.put hd hok.1 (.inr hc)
    ·simp at h
   ·simp at h
  ·simp at h
 case h_13=>
  rename_i hop
  have hc:cls cfg o≠ .P:=by simp[cls,hop]
  unfold loadX at h
  split at h
  ·split at h<;>simp at h;subst h;exact ClsOk.plain
  ·split at h
   ·split at h
    ·repeat' split at h
     all_goals first|(simp at h;done)|(simp at h;subst h;exact ClsOk.plain)
    ·split at h
     ·split at h
      ·split at h
       ·rename_i hu
        simp at h
        subst h
        exact ClsOk.frz (unflat_frz hu) hc
       ·simp at h
      ·split at h<;>simp at h;subst h;exact ClsOk.plain
     ·simp at h
    ·simp at h
   ·simp at h
  ·simp at h
 case h_14=>
  unfold nilX at h
  repeat' split at h
  all_goals first|(simp at h;done)|(simp at h;subst h;exact ClsOk.plain)
 case h_15=>
  unfold faddrX at h
  repeat' split at h
  all_goals first|(simp at h;done)|(simp at h;subst h;exact ClsOk.plain)
 case h_16=>
  unfold iaddrX at h
  repeat' split at h
  all_goals first|(simp at h;done)|(simp at h;subst h;exact ClsOk.plain)
 case h_17=>
  unfold indexX at h
  repeat' split at h
  all_goals first|(simp at h;done)|(simp at h;subst h;exact ClsOk.plain)
 case h_18=>
  unfold sliceX at h
  repeat' split at h
  all_goals first|(simp at h;done)|(simp at h;subst h;exact ClsOk.plain)
 case h_19=>
  rename_i hop
  have hc:cls cfg o= .A:=by simp[cls,hop]
  unfold makeX at h
  split at h
  ·rename_i et kl l kc c d _ _ _ hd
   split at h
   ·simp at h
   ·split at h
    ·split at h
     ·rename_i hok
      simp at h
      subst h
      simp only[Bool.and_eq_true] at hok
      exact ClsOk.put hd hok.1.1.1 (.inl hc)
     ·simp at h
    ·simp at h
  ·simp at h
 case h_20=>
  unfold builtinX lenX mmX at h
  repeat' split at h
  all_goals first|(simp at h;done)|(simp at h;subst h;exact ClsOk.plain)
 case h_21=>
  rename_i hop
  split at h
  ·simp at h
  rename_i hown
  have hc:cls cfg o= .call:=by simp[cls,hop,hown]
  split at h
  ·unfold callN at h
   split at h
   ·simp only[Option.some.injEq] at h
    subst h
    exact ⟨fun e=>absurd hc e,.inl ⟨[],rfl,FrzOk.nil,fun _=>rfl⟩⟩
   ·simp at h
  unfold callX at h
  split at h
  ·rename_i l frz rets h1 h2
   split at h
   ·simp only[Option.some.injEq] at h
    subst h
    refine ⟨fun e=>absurd hc e,.inl ?_⟩
    by_cases hp:rets.all Sh.prim=true
    ·simp only[hp,if_true];exact ⟨[],rfl,FrzOk.nil,fun _=>rfl⟩
    ·simp only[hp];exact ⟨frz,rfl,argsX_frz h1,fun e=>by rw[hc] at e;cases e⟩
   ·simp at h
  ·simp at h
 case h_22=>exact opy_cls h
theorem opx_cls (h:opx P cfg o pc ev rb nv=some out):ClsOk rb pc o.dst (cls cfg o) out:=by
 rcases opx_cases h with ⟨_,rfl⟩|⟨_,h⟩|⟨_,_,h⟩
 ·exact ClsOk.plain
 ·obtain ⟨h1,h2,_⟩:=preX_out h
  exact ⟨fun _=>h2,.inl ⟨[],h1,FrzOk.nil,fun _=>rfl⟩⟩
 ·exact opx0_cls h
theorem rbOf_frz (bs:List Blk):∀f:List Nat,rbOf (runCmds (f.map .frz) bs)=rbOf bs:=by
 intro f
 induction f generalizing bs with
 |nil=>rfl
 |cons r f ih=>
  change rbOf (runCmds (f.map .frz) (bs.modify r fun b=> {b with froz:=true}))=_
  rw[ih]
  funext q
  unfold rbOf
  rw[List.getElem?_modify]
  cases bs[q]? with
  |none=>simp
  |some b=>by_cases hr:r=q<;>simp[hr]
theorem modify_comm (bs:List Blk) (r q:Nat):(bs.modify r fun b=> {b with froz:=true}).modify q (fun b=> {b with froz:=true})=(bs.modify q fun b=> {b with froz:=true}).modify r (fun b=> {b with froz:=true}):=by
 apply List.ext_getElem?
 intro i
 simp only[List.getElem?_modify]
 cases bs[i]? with
 |none=>simp
 |some b=>by_cases h1:r=i<;>by_cases h2:q=i<;>simp[h1,h2]
theorem frz_one (q:Nat):∀(f:List Nat) (bs:List Blk),runCmds (f.map .frz) (bs.modify q fun b=> {b with froz:=true})=(runCmds (f.map .frz) bs).modify q fun b=> {b with froz:=true}
 | [],_=>rfl
 |r::f,bs=>by
  change runCmds (f.map .frz) ((bs.modify q _).modify r _)=(runCmds (f.map .frz) (bs.modify r _)).modify q _
  rw[modify_comm,frz_one q f]
theorem frz_frz:∀(f g:List Nat) (bs:List Blk),runCmds (f.map .frz) (runCmds (g.map .frz) bs)=runCmds (g.map .frz) (runCmds (f.map .frz) bs)
 | [],_,_=>rfl
 |r::f,g,bs=>by
  change runCmds (f.map .frz) ((runCmds (g.map .frz) bs).modify r _)=runCmds (g.map .frz) (runCmds (f.map .frz) (bs.modify r _))
  rw[←frz_one r g,frz_frz f g]
theorem frz_set {d:Nat} (b:Blk):∀(f:List Nat) (bs:List Blk),d∉f→runCmds (f.map .frz) (bs.set d b)=(runCmds (f.map .frz) bs).set d b
 | [],_,_=>rfl
 |r::f,bs,h=>by
  simp only[List.mem_cons,not_or] at h
  change runCmds (f.map .frz) ((bs.set d b).modify r _)=(runCmds (f.map .frz) (bs.modify r _)).set d b
  rw[←frz_set b f _ h.2]
  congr 1
  apply List.ext_getElem?
  intro i
  simp only[List.getElem?_modify,List.getElem?_set,List.length_modify]
  by_cases h1:d=i
  ·subst h1
   by_cases h2:d<bs.length<;>simp[h2,Ne.symm h.1]
  ·simp[h1]
theorem made_new {r:Nat} (h:Made rb r) (hn:isNew rb r=true):False:=by
 obtain ⟨b,h1,h2⟩:=h
 unfold isNew at hn
 split at hn
 ·rename_i hr
  rw[h1] at hr
  injection hr with hr
  subst hr
  exact h2 rfl
 ·simp at hn
theorem cmds_comm {bs:List Blk} {pc pc':Pres} {dst dst':Option Tmp} {c c':Cls} {out out':Out} (hd:∀d,dst=some d→dst'≠some d)
  (h:ClsOk (rbOf bs) pc dst c out) (h':ClsOk (rbOf bs) pc' dst' c' out'):runCmds out.cmds (runCmds out'.cmds bs)=runCmds out'.cmds (runCmds out.cmds bs):=by
 obtain ⟨-,h⟩:=h
 obtain ⟨-,h'⟩:=h'
 rcases h with ⟨f,e,hf,-⟩|⟨d,lb,e0,e,hn,-⟩<;>rcases h' with ⟨f',e',hf',-⟩|⟨d',lb',e0',e',hn',-⟩<;>rw[e,e']
 ·exact frz_frz _ _ _
 ·exact frz_set _ f bs (fun hm=>made_new (hf _ hm) hn')
 ·exact (frz_set _ f' bs (fun hm=>made_new (hf' _ hm) hn)).symm
 ·change (bs.set d' _).set d _=(bs.set d _).set d' _
  exact List.set_comm _ _ (fun e1=>hd d e0 (by rw[e0',e1]))
theorem cls_le {bs:List Blk} {dst:Option Tmp} {c:Cls} {out:Out} (h:ClsOk (rbOf bs) pc dst c out):RbLe (rbOf bs) (rbOf (runCmds out.cmds bs)):=by
 obtain ⟨-,h⟩:=h
 rcases h with ⟨f,e,hf,-⟩|⟨d,lb,e0,e,hn,-⟩<;>rw[e]
 ·rw[rbOf_frz];exact fun r b hb _=>hb
 ·intro r b hb hl
  change rbOf (bs.set d _) r=_
  have hne:d≠r:=fun e1=>by subst e1;exact made_new ⟨b,hb,hl⟩ hn
  unfold rbOf at hb ⊢
  rw[List.getElem?_set_ne hne]
  exact hb
theorem cls_new {bs:List Blk} {dst:Option Tmp} {c:Cls} {out:Out} {q:Nat} (h:ClsOk (rbOf bs) pc dst c out) (hq:dst≠some q):isNew (rbOf (runCmds out.cmds bs)) q=isNew (rbOf bs) q:=by
 obtain ⟨-,h⟩:=h
 rcases h with ⟨f,e,hf,-⟩|⟨d,lb,e0,e,hn,-⟩<;>rw[e]
 ·rw[rbOf_frz]
 ·change isNew (rbOf (bs.set d _)) q=_
  have hne:d≠q:=fun e1=>by subst e1;exact hq e0
  unfold isNew rbOf
  rw[List.getElem?_set_ne hne]
/-- A step, but for its guard and its temporary. -/
def core (P:Program) (cfg:Cfg) (o:Oper) (pc:Pres) (ev:Ev) (bs:List Blk) (nv:Nat):Option (SX×List Blk×Nat×List Ob):=
 if cls cfg o= .W then
  if pc=[] then match opw P cfg o ev bs with
   |some (x,bs,obs)=>if obVars obs=0 then some (x,bs,0,obs) else none
   |none=>none
  else none
 else if cls cfg o= .G then
  if pc=[] then match opg P cfg o ev bs nv with
   |some (x,bs,obs,n)=>if obVars obs=n then some (x,bs,n,obs) else none
   |none=>none
  else none
 else match opx P cfg o pc ev (rbOf bs) nv with
  |some out=>if obVars out.obs=out.nv then some (out.x,runCmds out.cmds bs,out.nv,out.obs) else none
  |none=>none
theorem astep_core {ops:List Oper} {S S':SS} {obs:List Ob}:astep P cfg ops o S=some (S',obs)↔
  ∃pc x bs n,guardPres S ops o=some pc∧core P cfg o pc (S.ev P) S.blks S.nv=some (x,bs,n,obs)∧S'= {tmps:=putT S.tmps o.dst ⟨pc,x⟩,blks:=bs,nv:=S.nv+n}:=by
 unfold astep core
 cases hg:guardPres S ops o with
 |none=>simp
 |some pc=>
  simp only[Option.some.injEq]
  by_cases hw:cls cfg o= .W
  ·simp only[hw,if_true]
   by_cases hp:pc=[]
   ·subst hp
    simp only[if_true]
    cases ho:opw P cfg o (S.ev P) S.blks with
    |none=>simp
    |some y=>
     obtain ⟨x,bs,ob⟩:=y
     simp only
     by_cases hv:obVars ob=0
     ·simp only[hv,if_true,Option.some.injEq,Prod.mk.injEq]
      constructor
      ·rintro ⟨rfl,rfl⟩;exact ⟨[],x,bs,0,rfl,by simp,rfl⟩
      ·rintro ⟨_,_,_,_,rfl,h,rfl⟩
       simp at h
       obtain ⟨rfl,rfl,rfl,rfl⟩:=h
       exact ⟨rfl,rfl⟩
     ·simp[hv]
   ·simp only[hp,if_false]
    simp
    intro _ _ _ h
    exact absurd h hp
  by_cases hw':cls cfg o= .G
  ·simp only[hw',if_true,if_neg (show ¬(Cls.G=Cls.W) by simp)]
   by_cases hp:pc=[]
   ·subst hp
    simp only[if_true]
    cases ho:opg P cfg o (S.ev P) S.blks S.nv with
    |none=>simp
    |some y=>
     obtain ⟨x,bs,ob,n⟩:=y
     simp only
     by_cases hv:obVars ob=n
     ·simp only[hv,if_true,Option.some.injEq,Prod.mk.injEq]
      constructor
      ·rintro ⟨rfl,rfl⟩;exact ⟨[],x,bs,n,rfl,by simp,rfl⟩
      ·rintro ⟨_,_,_,_,rfl,h,rfl⟩
       simp at h
       obtain ⟨rfl,rfl,rfl,rfl⟩:=h
       exact ⟨rfl,rfl⟩
     ·simp[hv]
   ·simp only[hp,if_false]
    simp
    intro _ _ _ h
    exact absurd h hp
  ·simp only[hw,hw',if_false]
   change (match opx P cfg o pc (S.ev P) (rbOf S.blks) S.nv with|some out=>_|none=>none)=_↔_
   cases ho:opx P cfg o pc (S.ev P) (rbOf S.blks) S.nv with
   |none=>
    simp
    intro _ _ _ h
    simp[ho] at h
   |some out=>
    simp only
    by_cases hv:obVars out.obs=out.nv
    ·simp only[hv,if_true,Option.some.injEq,Prod.mk.injEq]
     constructor
     ·rintro ⟨rfl,rfl⟩;exact ⟨pc,out.x,_,out.nv,rfl,by simp[ho,hv],rfl⟩
     ·rintro ⟨_,_,_,_,rfl,h,rfl⟩
      simp[ho,hv] at h
      obtain ⟨rfl,rfl,rfl,rfl⟩:=h
      exact ⟨rfl,rfl⟩
    ·simp[hv]
     intro _ _ _ h
     simp[ho,hv] at h
theorem core_congr {bs:List Blk} (h:EvEq o.op.operands.toList ev ev'):core P cfg o pc ev bs nv=core P cfg o pc ev' bs nv:=by
 unfold core
 rw[opw_congr h,opg_congr h,opx_congr h]
theorem core_opx {bs bs':List Blk} {x:SX} {n:Nat} {obs:List Ob} (hw:cls cfg o≠ .W) (hw':cls cfg o≠ .G):core P cfg o pc ev bs nv=some (x,bs',n,obs)↔
  ∃out,opx P cfg o pc ev (rbOf bs) nv=some out∧obVars out.obs=out.nv∧x=out.x∧bs'=runCmds out.cmds bs∧n=out.nv∧obs=out.obs:=by
 unfold core
 rw[if_neg hw,if_neg hw']
 cases ho:opx P cfg o pc ev (rbOf bs) nv with
 |none=>simp
 |some out=>
  simp only
  by_cases hv:obVars out.obs=out.nv
  ·simp only[hv,if_true,Option.some.injEq,Prod.mk.injEq]
   constructor
   ·rintro ⟨rfl,rfl,rfl,rfl⟩;exact ⟨out,rfl,hv,rfl,rfl,rfl,rfl⟩
   ·rintro ⟨_,rfl,_,rfl,rfl,rfl,rfl⟩;exact ⟨rfl,rfl,rfl,rfl⟩
  ·rw[if_neg hv]
   constructor
   ·intro h;cases h
   ·rintro ⟨_,h,h2,_⟩;injection h with h;subst h;exact absurd h2 hv
/-- Two operations that do not meet. -/
theorem core_comm {a x:Oper} {pc pc':Pres} {bs bs1 bs2:List Blk} {x1 x2:SX} {n1 n2:Nat} {ob1 ob2:List Ob} (hd:∀d,a.dst=some d→x.dst≠some d)
  (hc:(match cls cfg a,cls cfg x with
   | .P,_|_,.P=>true
   | .R,.R| .R,.call| .call,.R| .R,.A| .call,.A| .R,.L| .call,.L| .A,.A| .L,.A=>true
   |_,_=>false)=true)
  (h1:core P cfg a pc ev bs nv=some (x1,bs1,n1,ob1)) (h2:core P cfg x pc' ev' bs1 (nv+n1)=some (x2,bs2,n2,ob2)):
  ∃bs1',core P cfg x pc' ev' bs nv=some (x2,bs1',n2,ob2)∧core P cfg a pc ev bs1' (nv+n2)=some (x1,bs2,n1,ob1)∧(n1=0∨n2=0):=by
 by_cases hPa:cls cfg a= .P
 ·have hw:cls cfg a≠ .W:=by rw[hPa];simp
  have hw':cls cfg a≠ .G:=by rw[hPa];simp
  obtain ⟨out,ho,hv,rfl,rfl,rfl,rfl⟩:=(core_opx hw hw').1 h1
  obtain ⟨hn,hc'⟩:=opx_cls ho
  have hn0:=hn (by rw[hPa];simp)
  have he:out.cmds=[]:=by
   rcases hc' with ⟨f,e,_,hf⟩|⟨d,lb,_,_,_,hh⟩
   ·rw[e,hf hPa];rfl
   ·rw[hPa] at hh;simp at hh
  rw[hn0,he] at h2
  refine ⟨bs2,h2,(core_opx hw hw').2 ⟨out,?_,hv,rfl,?_,rfl,rfl⟩,.inl hn0⟩
  ·rw[opx_P hPa (rb':=rbOf bs),opx_nv (by rw[hPa];simp) (nv':=nv)];exact ho
  ·rw[he];rfl
 by_cases hPx:cls cfg x= .P
 ·have hw:cls cfg x≠ .W:=by rw[hPx];simp
  have hw':cls cfg x≠ .G:=by rw[hPx];simp
  obtain ⟨out,ho,hv,rfl,rfl,rfl,rfl⟩:=(core_opx hw hw').1 h2
  obtain ⟨hn,hc'⟩:=opx_cls ho
  have hn0:=hn (by rw[hPx];simp)
  have he:out.cmds=[]:=by
   rcases hc' with ⟨f,e,_,hf⟩|⟨d,lb,_,_,_,hh⟩
   ·rw[e,hf hPx];rfl
   ·rw[hPx] at hh;simp at hh
  refine ⟨bs,(core_opx hw hw').2 ⟨out,?_,hv,rfl,by rw[he];rfl,rfl,rfl⟩,?_,.inr hn0⟩
  ·rw[opx_P hPx (rb':=rbOf bs1),opx_nv (by rw[hPx];simp) (nv':=nv+n1)];exact ho
  ·rw[hn0,he];exact h1
 have hwa:cls cfg a≠ .W:=fun e=>by rw[e] at hc;revert hc;cases hx:cls cfg x<;>simp;exact hPx hx
 have hwx:cls cfg x≠ .W:=fun e=>by rw[e] at hc;revert hc;cases hx:cls cfg a<;>simp;exact hPa hx
 have hga:cls cfg a≠ .G:=fun e=>by rw[e] at hc;revert hc;cases hx:cls cfg x<;>simp;exact hPx hx
 have hgx:cls cfg x≠ .G:=fun e=>by rw[e] at hc;revert hc;cases hx:cls cfg a<;>simp;exact hPa hx
 obtain ⟨out,ho,hv,rfl,rfl,rfl,rfl⟩:=(core_opx hwa hga).1 h1
 obtain ⟨out',ho',hv',rfl,rfl,rfl,rfl⟩:=(core_opx hwx hgx).1 h2
 have hca:=opx_cls ho
 have hnv:out.nv=0∨out'.nv=0:=by
  by_cases h:cls cfg a= .call
  ·refine .inr ((opx_cls ho').1 fun e=>?_)
   rw[h,e] at hc
   simp at hc
  ·exact .inl (hca.1 h)
 have hnx:cls cfg x≠ .call∨out.nv=0:=by
  by_cases h:cls cfg x= .call
  ·refine .inr (hca.1 fun e=>?_)
   rw[h,e] at hc
   simp at hc
  ·exact .inl h
 have hna:cls cfg a≠ .call∨out'.nv=0:=by
  by_cases h:cls cfg a= .call
  ·refine .inr ((opx_cls ho').1 fun e=>?_)
   rw[h,e] at hc
   simp at hc
  ·exact .inl h
 have hox:opx P cfg x pc' ev' (rbOf bs) nv=some out':=by
  have e1:opx P cfg x pc' ev' (rbOf (runCmds out.cmds bs)) nv=some out':=by
   rcases hnx with h|h
   ·rw[opx_nv h (nv':=nv+out.nv)];exact ho'
   ·rw[h] at ho';exact ho'
  rcases hca.2 with ⟨f,e,hf,_⟩|⟨d,lb,e0,e,hn,hh⟩
  ·rw[e,rbOf_frz] at e1
   exact e1
  ·have hxA:cls cfg x= .A:=by
    rcases hh with hh|hh<;>rw[hh] at hc<;>revert hc<;>cases hx:cls cfg x<;>simp
    ·exact hPx hx
    ·exact hPx hx
   rw[opx_A hxA (rb':=rbOf (runCmds out.cmds bs)) fun d' hd'=>(cls_new hca (fun e2=>hd d' e2 hd')).symm]
   exact e1
 have hcx:=opx_cls hox
 refine ⟨runCmds out'.cmds bs,(core_opx hwx hgx).2 ⟨out',hox,hv',rfl,rfl,rfl,rfl⟩,(core_opx hwa hga).2 ⟨out,?_,hv,rfl,(cmds_comm hd hca hcx).symm,rfl,rfl⟩,hnv⟩
 have e1:=opx_le (cls_le hcx) (fun d hd' hn=>by rw[cls_new hcx (hd d hd')];exact hn) ho
 rcases hna with h|h
 ·rw[opx_nv h (nv':=nv)];exact e1
 ·rw[h];exact e1
theorem tmps_putT {l:List TS} {d:Option Tmp} {t:TS} {i:Nat} (h:d≠some i):(putT l d t)[i]?=l[i]?:=by
 cases d with
 |none=>rfl
 |some d=>exact List.getElem?_set_ne (fun e=>h (by rw[e]))
/-- States that agree on the temporaries that an operation looks at. -/
theorem guardPres_congr {S S':SS} {ops:List Oper} (h:∀t∈looks ops o,S'.tmps[t]?=S.tmps[t]?):guardPres S' ops o=guardPres S ops o:=by
 unfold guardPres
 unfold looks at h
 cases hg:o.guard with
 |none=>rfl
 |some g=>
  obtain ⟨j,want⟩:=g
  simp only
  cases hd:(ops[j]?).bind (·.dst) with
  |none=>rfl
  |some d=>simp only[Option.bind_some];rw[h d (by simp[hg,hd])]
theorem ev_congr {S S':SS} {ops:List Oper} (h:∀t∈looks ops o,S'.tmps[t]?=S.tmps[t]?):EvEq o.op.operands.toList (S'.ev P) (S.ev P):=by
 intro x hx pc t
 unfold SS.ev
 cases x with
 |tmp i=>
  simp only
  rw[h i (List.mem_append_left _ (List.mem_filterMap.2 ⟨.tmp i,by simpa using hx,rfl⟩))]
 |_=>rfl
theorem putT_comm {l:List TS} {d d':Option Tmp} {t t':TS} (h:∀x,d=some x→d'≠some x):putT (putT l d t) d' t'=putT (putT l d' t') d t:=by
 cases d with
 |none=>rfl
 |some d=>
  cases d' with
  |none=>rfl
  |some d'=>exact List.set_comm _ _ (fun e=>h d rfl (by rw[e]))
/-- Two steps change places. -/
theorem astep_comm {ops:List Oper} {a x:Oper} {S S1 S2:SS} {ob1 ob2:List Ob} (hi:indep cfg ops a x=true) (h1:astep P cfg ops a S=some (S1,ob1)) (h2:astep P cfg ops x S1=some (S2,ob2)):
  ∃S1',astep P cfg ops x S=some (S1',ob2)∧astep P cfg ops a S1'=some (S2,ob1)∧(obVars ob1=0∨obVars ob2=0):=by
 have hv1:=astep_nv h1
 have hv2:=astep_nv h2
 obtain ⟨pc,x1,bs1,n1,hg,hcore,rfl⟩:=astep_core.1 h1
 obtain ⟨pc',x2,bs2,n2,hg',hcore',rfl⟩:=astep_core.1 h2
 simp only[indep,Bool.and_eq_true] at hi
 obtain ⟨hi1,hi2,hi3⟩:=hi
 have hlx:∀t∈looks ops x,a.dst≠some t:=by
  intro t ht e
  rw[e] at hi1
  simp at hi1
  exact hi1.1 ht
 have hdd:∀d,a.dst=some d→x.dst≠some d:=by
  intro d e
  rw[e] at hi1
  simp at hi1
  exact hi1.2
 have hla:∀t∈looks ops a,x.dst≠some t:=by
  intro t ht e
  rw[e] at hi2
  simp at hi2
  exact hi2 ht
 have ax:∀t∈looks ops x,(putT S.tmps a.dst ⟨pc,x1⟩)[t]?=S.tmps[t]?:=fun t ht=>tmps_putT (hlx t ht)
 have aa:∀t∈looks ops a,(putT S.tmps x.dst ⟨pc',x2⟩)[t]?=S.tmps[t]?:=fun t ht=>tmps_putT (hla t ht)
 rw[guardPres_congr (S:=S) ax] at hg'
 rw[core_congr (ev_congr (S:=S) ax)] at hcore'
 obtain ⟨bs1',e1,e2,e3⟩:=core_comm hdd hi3 hcore hcore'
 refine ⟨{tmps:=putT S.tmps x.dst ⟨pc',x2⟩,blks:=bs1',nv:=S.nv+n2},astep_core.2 ⟨pc',x2,bs1',n2,hg',e1,rfl⟩,
  astep_core.2 ⟨pc,x1,bs2,n1,?_,?_,?_⟩,?_⟩
 ·rw[guardPres_congr (S:=S) aa];exact hg
 ·rw[core_congr (ev_congr (S:=S) aa)];exact e2
 ·rw[SS.mk.injEq]
  exact ⟨putT_comm hdd,rfl,by simp only;omega⟩
 ·simp only[obVars] at*
  rcases e3 with h|h
  ·left;omega
  ·right;omega
theorem runOps_nv {ops:List Oper}:∀ {l:List Oper} {S S':SS} {obs:List Ob},runOps P cfg ops l S=some (S',obs)→S'.nv=S.nv+obVars obs
 | [],S,S',obs,h=>by simp[runOps] at h;obtain ⟨rfl,rfl⟩:=h;simp[obVars]
 |o::l,S,S',obs,h=>by
  simp only[runOps] at h
  split at h
  ·simp at h
  ·rename_i S1 ob1 h1
   split at h
   ·simp at h
   ·rename_i S2 ob2 h2
    simp at h
    obtain ⟨rfl,rfl⟩:=h
    have e1:=astep_nv h1
    have e2:=runOps_nv h2
    simp only[obVars,List.map_append,List.sum_append] at*
    omega
theorem obsHold_any {ρ:List C}:∀(l:List Ob) (m m':Nat),(l.map Ob.vars).sum=0→obsHold P ρ m l→obsHold P ρ m' l:=by
 intro l
 induction l with
 |nil=>exact fun _ _ _ h=>h
 |cons o l ih=>
  intro m m' hs hh
  simp only[List.map_cons,List.sum_cons] at hs
  have h0:o.vars=0:=by omega
  refine ⟨?_,?_⟩
  ·have:=hh.1
   cases o with
   |asrt p e=>exact this
   |call p f args rets=>
    simp only[Ob.vars] at h0
    have hr:rets=[]:=List.length_eq_zero_iff.1 h0
    subst hr
    exact fun hp=>⟨(this hp).1,.inl rfl⟩
  ·rw[h0];have:=hh.2;rw[h0] at this;exact ih _ _ (by omega) this
/-- An operation goes ahead. -/
theorem runOps_move {ρ:List C} {ops:List Oper} {x:Oper} {post:List Oper}:∀ {pre:List Oper} {S S':SS} {obs:List Ob},(∀a∈pre,indep cfg ops a x=true)→
  runOps P cfg ops (pre++x::post) S=some (S',obs)→obsHold P ρ S.nv obs→
  ∃S1 ob1 ob2,astep P cfg ops x S=some (S1,ob1)∧runOps P cfg ops (pre++post) S1=some (S',ob2)∧obsHold P ρ S.nv ob1∧obsHold P ρ S1.nv ob2
 | [],S,S',obs,_,h,ho=>by
  simp only[List.nil_append,runOps] at h
  split at h
  ·simp at h
  ·rename_i S1 ob1 h1
   split at h
   ·simp at h
   ·rename_i S2 ob2 h2
    simp at h
    obtain ⟨rfl,rfl⟩:=h
    rw[obsHold_app] at ho
    exact ⟨S1,ob1,ob2,h1,h2,ho.1,by rw[astep_nv h1];exact ho.2⟩
 |a::pre,S,S',obs,hi,h,ho=>by
  simp only[List.cons_append,runOps] at h
  split at h
  ·simp at h
  ·rename_i Sa oba ha
   split at h
   ·simp at h
   ·rename_i S2 ob2 h2
    simp at h
    obtain ⟨rfl,rfl⟩:=h
    rw[obsHold_app] at ho
    obtain ⟨S3,ob3,ob4,h3,h4,ho3,ho4⟩:=runOps_move (fun a' ha'=>hi a' (by simp[ha'])) h2 (by rw[astep_nv ha];exact ho.2)
    obtain ⟨S1',e1,e2,e3⟩:=astep_comm (hi a (by simp)) ha h3
    have n1:=astep_nv ha
    have n2:=astep_nv h3
    have n3:=astep_nv e1
    have n4:=astep_nv e2
    simp only[obVars] at e3
    refine ⟨S1',ob3,oba++ob4,e1,?_,?_,?_⟩
    ·simp only[List.cons_append,runOps,e2,h4]
    ·rcases e3 with e|e
     ·rw[show S.nv=Sa.nv by omega];exact ho3
     ·exact obsHold_any _ _ _ e ho3
    ·rw[obsHold_app]
     refine ⟨?_,by rw[←n4];exact ho4⟩
     rcases e3 with e|e
     ·exact obsHold_any _ _ _ e ho.1
     ·rw[show S1'.nv=S.nv by omega];exact ho.1
end
end Go.Vc

namespace Go.Vc
section
variable {P:Program} {cfg:Cfg} {N0:Nat→Prop} {w0:Wb} {ρ:List C} {Q:Exit→Act→World→Prop}
/-- The operations that are not listed yet, from the k-th on. -/
def rem (listed:Array Bool):Nat→List Oper→List Oper
 |_,[]=> []
 |k,o::l=>if listed.getD k true then rem listed (k+1) l else o::rem listed (k+1) l
theorem rem_split {listed:Array Bool}:∀ {l:List Oper} {k i:Nat} {x:Oper},l[i]?=some x→listed.getD (k+i) true=false→
  rem listed k l=rem listed k (l.take i)++x::rem listed (k+i+1) (l.drop (i+1))
 | [],_,_,_,h,_=>by simp at h
 |o::l,k,0,x,h,hl=>by
  simp at h hl
  subst h
  simp[rem,hl]
 |o::l,k,i+1,x,h,hl=>by
  have ih:=rem_split (listed:=listed) (l:=l) (k:=k+1) (i:=i) (x:=x) (by simpa using h) (by rw[←hl];congr 1;omega)
  simp only[List.take_succ_cons,List.drop_succ_cons,rem]
  rw[ih,show k+1+i+1=k+(i+1)+1 by omega]
  split<;>simp
theorem rem_congr {listed listed':Array Bool}:∀ {l:List Oper} {k:Nat},(∀j,k≤j→j<k+l.length→listed'.getD j true=listed.getD j true)→rem listed' k l=rem listed k l
 | [],_,_=>rfl
 |o::l,k,h=>by
  simp only[rem]
  rw[h k (Nat.le_refl _) (by simp),rem_congr (l:=l) fun j h1 h2=>h j (by omega) (by simp;omega)]
theorem rem_set {listed:Array Bool}:∀ {l:List Oper} {k i:Nat} {x:Oper},l[i]?=some x→listed.getD (k+i) true=false→k+i<listed.size→
  rem (listed.setIfInBounds (k+i) true) k l=rem listed k (l.take i)++rem listed (k+i+1) (l.drop (i+1))
 | [],_,_,_,h,_,_=>by simp at h
 |o::l,k,0,x,h,hl,hs=>by
  have e1:(listed.setIfInBounds k true).getD k true=true:=by
   simp at hs
   simp[Array.getD,hs]
  simp only[Nat.add_zero,List.take_zero,rem,List.nil_append,e1,if_true]
  simp only[List.drop_succ_cons,List.drop_zero]
  exact rem_congr fun j h1 _=>getD_set_ne true (by omega)
 |o::l,k,i+1,x,h,hl,hs=>by
  have ih:=rem_set (listed:=listed) (l:=l) (k:=k+1) (i:=i) (x:=x) (by simpa using h) (by rw[←hl];congr 1;omega) (by omega)
  simp only[List.take_succ_cons,List.drop_succ_cons,rem]
  rw[show k+1+i=k+(i+1) by omega] at ih
  rw[ih,getD_set_ne true (by omega)]
  split<;>simp
theorem mem_rem {listed:Array Bool}:∀ {l:List Oper} {k:Nat} {a:Oper},a∈rem listed k l→∃j,l[j]?=some a∧listed.getD (k+j) true=false
 | [],_,_,h=>by simp[rem] at h
 |o::l,k,a,h=>by
  simp only[rem] at h
  split at h
  ·obtain ⟨j,h1,h2⟩:=mem_rem h
   exact ⟨j+1,by simpa using h1,by rw[←h2];congr 1;omega⟩
  ·rename_i hk
   rcases List.mem_cons.1 h with h|h
   ·subst h;exact ⟨0,rfl,by simpa using hk⟩
   ·obtain ⟨j,h1,h2⟩:=mem_rem h
    exact ⟨j+1,by simpa using h1,by rw[←h2];congr 1;omega⟩
theorem rem_nil {listed:Array Bool} {l:List Oper} {k:Nat} (h:∀j,j<l.length→listed.getD (k+j) true=true):rem listed k l=[]:=by
 cases hr:rem listed k l with
 |nil=>rfl
 |cons a r=>
  obtain ⟨j,h1,h2⟩:=mem_rem (listed:=listed) (l:=l) (k:=k) (a:=a) (by rw[hr];simp)
  rw[h j (List.getElem?_eq_some_iff.1 h1).1] at h2
  cases h2
theorem fold_bits (acc:List Nat):∀(l:List Edge) (m j:Nat),(l.foldl (fun m e=>if Region.binds .any e then m|||2^e.on|||acc.getD e.on 0 else m) m).testBit j=true→
  m.testBit j=true∨∃e∈l,Region.binds .any e=true∧(j=e.on∨(acc.getD e.on 0).testBit j=true)
 | [],m,j,h=> .inl h
 |e::l,m,j,h=>by
  simp only[List.foldl_cons] at h
  rcases fold_bits acc l _ j h with h|⟨e',h1,h2,h3⟩
  ·split at h
   ·rename_i hb
    simp only[Nat.testBit_or,Bool.or_eq_true,Nat.testBit_two_pow,decide_eq_true_eq] at h
    rcases h with (h|h)|h
    ·exact .inl h
    ·exact .inr ⟨e,by simp,hb,.inl h.symm⟩
    ·exact .inr ⟨e,by simp,hb,.inr h⟩
   ·exact .inl h
  ·exact .inr ⟨e',by simp[h1],h2,h3⟩
theorem ancs_old:∀(l:List Oper) (acc:List Nat) (i:Nat),i<acc.length→(ancs l acc).getD i 0=acc.getD i 0
 | [],_,_,_=>rfl
 |o::l,acc,i,h=>by
  simp only[ancs]
  rw[ancs_old l _ i (by simp;omega)]
  simp[List.getD,List.getElem?_append_left h]
theorem ancs_spec:∀(l:List Oper) (acc:List Nat) (k:Nat) (o:Oper) (j:Nat),l[k]?=some o→((ancs l acc).getD (acc.length+k) 0).testBit j=true→
  ∃e∈o.after.toList,Region.binds .any e=true∧(j=e.on∨((ancs l acc).getD e.on 0).testBit j=true)
 | [],_,_,_,_,h,_=>by simp at h
 |o::l,acc,0,x,j,h,hb=>by
  simp at h
  subst h
  simp only[ancs,Nat.add_zero] at hb ⊢
  rw[ancs_old l _ acc.length (by simp)] at hb
  simp only[List.getD,List.getElem?_append_right (Nat.le_refl _),Nat.sub_self,List.getElem?_cons_zero,Option.getD_some] at hb
  rcases fold_bits acc _ 0 j hb with h|⟨e,h1,h2,h3⟩
  ·simp at h
  ·refine ⟨e,h1,h2,h3.imp id fun h=>?_⟩
   have hlt:e.on<acc.length:=by
    rcases Nat.lt_or_ge e.on acc.length with h'|h'
    ·exact h'
    ·simp[List.getD,List.getElem?_eq_none h'] at h
   rw[ancs_old l _ e.on (by simp;omega)]
   simpa [List.getD,List.getElem?_append_left hlt] using h
 |o::l,acc,k+1,x,j,h,hb=>by
  simp only[ancs] at hb ⊢
  exact ancs_spec l _ k x j (by simpa using h) (by simpa [Nat.add_assoc,Nat.add_comm 1 k] using hb)
theorem zipIdx_all {α:Type} {l:List α} {p:α×Nat→Bool} (h:l.zipIdx.all p=true) {i:Nat} {x:α} (hx:l[i]?=some x):p (x,i)=true:=by
 rw[List.all_eq_true] at h
 exact h (x,i) (by rw[List.mk_mem_zipIdx_iff_getElem?];exact hx)
/-- Any order that the region allows. -/
theorem any_sound {ops:List Oper} (hok:regionOk P cfg ops=true) {S':SS} (hq:∀a' w',(∃hv',RelH P N0 w0 ρ S' hv' a' w')→Q .normal a' w'):
  ∀(fuel:Nat) (listed:Array Bool) (S:SS) (hv:Nat→Value) (a:Act) (w:World) (obs:List Ob),RelH P N0 w0 ρ S hv a w→
   runOps P cfg ops (rem listed 0 ops) S=some (S',obs)→obsHold P ρ S.nv obs→listed.size=ops.length→(rem listed 0 ops).length≤fuel→
   (∀i,listed.getD i false=true→∀j,((ancs ops []).getD i 0).testBit j=true→listed.getD j false=true)→wpAny P .any ops.toArray Q fuel listed a w:=by
 simp only[regionOk,Bool.and_eq_true] at hok
 obtain ⟨-,hback,hpairs⟩:=hok
 have hgd:∀(listed:Array Bool) (i:Nat),listed.size=ops.length→i<ops.length→listed.getD i true=listed.getD i false:=by
  intro listed i h1 h2
  have:i<listed.size:=by omega
  simp[Array.getD,this]
 have hnil:∀listed:Array Bool,listed.size=ops.length→Region.ready .any ops.toArray listed=[]→rem listed 0 ops=[]:=by
  intro listed hs hr
  apply rem_nil
  intro j hj
  rw[Nat.zero_add]
  induction j using Nat.strongRecOn with
  |_ j ih=>
   cases hb:listed.getD j true with
   |true=>rfl
   |false=>
    exfalso
    have hm:j∈Region.ready .any ops.toArray listed:=by
     rw[mem_ready]
     refine ⟨hb,ops[j],by simp[hj],fun e he hbe=>?_⟩
     have h1:=zipIdx_all hback (List.getElem?_eq_getElem hj)
     simp only[List.all_eq_true] at h1
     have h2:=h1 e (by simpa using he)
     simp[hbe] at h2
     rw[←hgd listed e.on hs (by omega)]
     exact ih e.on h2 (by omega)
    rw[hr] at hm
    cases hm
 intro fuel
 induction fuel with
 |zero=>
  intro listed S hv a w obs hrel hrun ho hs hf hcl
  have h0:rem listed 0 ops=[]:=List.length_eq_zero_iff.1 (by omega)
  refine ⟨?_,?_⟩
  ·cases hr:Region.ready .any ops.toArray listed with
   |nil=>rfl
   |cons i r=>
    have hm:i∈Region.ready .any ops.toArray listed:=by rw[hr];simp
    obtain ⟨h1,o,h2,_⟩:=mem_ready.1 hm
    rw[rem_split (listed:=listed) (l:=ops) (k:=0) (i:=i) (x:=o) (by simpa using h2) (by simpa using h1)] at h0
    simp at h0
  ·rw[h0] at hrun
   simp[runOps] at hrun
   obtain ⟨rfl,rfl⟩:=hrun
   exact hq a w ⟨hv,hrel⟩
 |succ fuel ih=>
  intro listed S hv a w obs hrel hrun ho hs hf hcl
  refine ⟨fun hr=>?_,fun i hi=>?_⟩
  ·rw[hnil listed hs hr] at hrun
   simp[runOps] at hrun
   obtain ⟨rfl,rfl⟩:=hrun
   exact hq a w ⟨hv,hrel⟩
  ·obtain ⟨h1,x,h2,hall⟩:=mem_ready.1 hi
   have hx:ops[i]?=some x:=by simpa using h2
   have hlt:i<ops.length:=(List.getElem?_eq_some_iff.1 hx).1
   have hanc:∀j,((ancs ops []).getD i 0).testBit j=true→listed.getD j false=true:=by
    intro j hj
    obtain ⟨e,he,hb,h3⟩:=ancs_spec ops [] i x j hx (by simpa using hj)
    have hl:=hall e (by simpa using he) hb
    rcases h3 with rfl|h3
    ·exact hl
    ·exact hcl e.on hl j h3
   have hsp:=rem_split (listed:=listed) (l:=ops) (k:=0) (i:=i) (x:=x) hx (by simpa using h1)
   have hst:=rem_set (listed:=listed) (l:=ops) (k:=0) (i:=i) (x:=x) hx (by simpa using h1) (by omega)
   rw[Nat.zero_add] at hst hsp
   rw[hsp] at hrun
   have hind:∀b∈rem listed 0 (ops.take i),indep cfg ops b x=true:=by
    intro b hb
    obtain ⟨j,hj,hjl⟩:=mem_rem hb
    rw[Nat.zero_add] at hjl
    rw[List.getElem?_take] at hj
    split at hj
    ·rename_i hji
     have h3:=zipIdx_all (zipIdx_all hpairs hx) hj
     simp only[Bool.or_eq_true,Bool.not_eq_true',decide_eq_false_iff_not] at h3
     rcases h3 with (h3|h3)|h3
     ·exact absurd hji h3
     ·have:=hanc j h3
      rw[←hgd listed j hs (by omega),hjl] at this
      cases this
     ·exact h3
    ·cases hj
   obtain ⟨S1,ob1,ob2,e1,e2,o1,o2⟩:=runOps_move hind hrun ho
   have next:∀a' w',(∃hv',RelH P N0 w0 ρ S1 hv' a' w')→wpAny P .any ops.toArray Q fuel (listed.setIfInBounds i true) a' w':=by
    rintro a' w' ⟨hv',hr'⟩
    refine ih _ S1 hv' a' w' ob2 hr' (by rw[hst];exact e2) o2 (by simpa using hs) ?_ ?_
    ·rw[hst]
     rw[hsp] at hf
     simp at hf ⊢
     omega
    ·intro q hq' j hj
     by_cases hqi:i=q
     ·subst hqi
      exact getD_set_true (hanc j hj)
     ·rw[getD_set_ne false hqi] at hq'
      exact getD_set_true (hcl q hq' j hj)
   unfold wpOp
   simp only[h2]
   have hss:=astep_sound (Q:=Q) hrel e1 o1
   split
   ·rename_i hw
    rw[if_pos hw] at hss
    exact .inl (Oper.wp_mono next hss)
   ·rename_i hw
    rw[if_neg hw] at hss
    exact next _ _ hss
/-- A region. -/
theorem region_sound {id:Nat} {ops:Array Oper} {draw:Bool} {S S':SS} {hv:Nat→Value} {a:Act} {w:World} {obs:List Ob} (hrel:RelH P N0 w0 ρ S hv a w)
  (hd:(draw&& !regionOk P cfg ops.toList)=false) (h:runOps P cfg ops.toList ops.toList S=some (S',obs)) (ho:obsHold P ρ S.nv obs)
  (hq:∀a' w',(∃hv',RelH P N0 w0 ρ S' hv' a' w')→Q .normal a' w'):(Code.region id ops draw).wp P Q a w:=by
 cases draw with
 |false=>
  refine wp_region_list ?_
  have:=runOps_sound (Q:=Q) hrel h ho hq
  simpa using this
 |true=>
  simp at hd
  have hm:P.follows .mixedOrders=true:=by simp only[regionOk,Bool.and_eq_true] at hd;exact hd.1
  refine wp_region_any hm ?_
  have key:∀(l:List Oper) (k n:Nat),k+l.length≤n→rem (Array.replicate n false) k l=l:=by
   intro l
   induction l with
   |nil=>intros;rfl
   |cons o l ih=>
    intro k n hk
    simp at hk
    have:(Array.replicate n false).getD k true=false:=by simp[Array.getD,show k<n by omega]
    simp only[rem,this]
    rw[ih (k+1) n (by omega)]
    simp
  have hk:=key ops.toList 0 ops.size (by simp)
  have:=any_sound (Q:=Q) hd hq ops.size (Array.replicate ops.size false) S hv a {w with drawn:=w.drawn+1} obs (hrel.drew _) (by rw[hk];exact h) ho (by simp) (by rw[hk];simp)
   (fun i hi=>by exfalso;by_cases hlt:i<ops.size<;>simp[Array.getD,hlt] at hi)
  simpa using this
end
end Go.Vc
