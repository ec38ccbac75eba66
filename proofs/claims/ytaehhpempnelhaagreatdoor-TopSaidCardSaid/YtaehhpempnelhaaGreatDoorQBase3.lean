/-
  My own general texts, one behind the other: a generator of conditions over the model, with its proof, and plain lemmas. No condition on the program.
-/
import Derived.Test.YtaehhpempnelhaaGreatDoorQBase2
import Derived.ProofKit
import Derived.OpenShut
import Derived.ShutString
import Derived.ChangeOld
import Derived.Below
namespace Go.Vc
section
variable{P:Program}{cfg:fF}{ev:Ev}{pc:bq}{nv:Nat}{o:Oper}
theorem MR(c d:List fV)(bs:List aL):bP (c++d) bs=bP d (bP c bs):=by simp[bP]
theorem axy(bs:List aL):yR P cfg o ev bs=(wW P cfg o ev bs).map fun y=>(y.1,bP y.2.1 bs,y.2.2):=by
 have h1:∀r es e i fo s eG x,JW bs r es e i fo s eG x=(JX bs r es e i fo s eG x).map fun cs=>bP cs bs:=by
  intro r es e i fo s eG x;unfold JW JX;cases hx:lg (bT bs) [] x with
  |none=>rfl
  |some y=>
   obtain⟨s',ex,f⟩:=y;simp only;by_cases hc:(decide (s=s')&& !f.contains r)=true
   .simp only[hc,eO];cases eG with
    |none=>
     simp only;by_cases he:s=es
     .rw[aC he,aC he,yL,MR,xP];rfl
     rw[zq he,zq he];rfl
    |some j=>
     simp only;by_cases he:es.eG j=some (s,fo)
     .rw[aC he,aC he,yL,MR,xP];rfl
     rw[zq he,zq he];rfl
   .rw[zq hc,zq hc];rfl
 have h2:∀r cs fo s x,JY bs r cs fo s x=(JZ bs r cs fo s x).map fun cs=>bP cs bs:=by
  intro r cs fo s x;unfold JY JZ;cases x with
  |jo s' ex=>simp only;split<;>rfl
  |full r' n=>
   simp only;cases rowOf (bT bs) [] r' with
   |none=>rfl
   |some y=>simp only;split<;>rfl
  |_=>rfl
 have h3:∀t a x,KG P bs t a x=(zJ P bs t a x).map fun cs=>bP cs bs:=by
  intro t a x;unfold KG zJ;cases a with
  |none=>rfl
  |some sa=>
   cases x with
   |none=>cases sa<;>rfl
   |some x=>
    cases sa with
    |ref r i fo s eG=>
     simp only;by_cases hf:kL P t s=true
     .rw[aC hf,aC hf];cases hb:bs[r]? with
      |none=>rfl
      |some k=>
       obtain⟨lb,fz,p⟩:=k;cases lb with
       |row es e=>cases fz<;>cases p<;>first|rfl|exact h1 ..
       |box cs=>cases fz<;>cases p<;>first|rfl|exact h2 ..
       |_=>rfl
     rw[zq hf,zq hf];rfl
    |_=>rfl
 have h4:∀k ts d a b,KC P k bs ts d a b=(Hl P k bs ts d a b).map fun y=>(y.1,bP y.2.1 bs,y.2.2):=by
  intro k ts d a b;unfold KC Hl;cases rY P (ts.getD 0 0)with
  |none=>rfl
  |some et=>
   cases a with
   |none=>rfl
   |some sa=>
    cases b with
    |none=>rfl
    |some sb=>
     simp only;cases uP P bs et (ts.getD 1 0) sb with
     |none=>rfl
     |some y=>
      obtain⟨s,m,f⟩:=y;simp only;by_cases hc:(decide (ts.size=2)&&(zeroE P et s).isSome&&kL P et s&&s.size !=0&&P.bytesOf et !=0)=true
      .rw[aC hc,aC hc];cases sa with
       |full r n=>
        simp only;cases ownRow bs r with
        |none=>rfl
        |some z=>
         simp only;cases k with
         |true=>simp only[eO];split<;>rfl
         |false=>simp only[xk,pY];split<;>rfl
       |jo s' e=>
        cases s' with
        |sl s''=>cases e with
         |bg=>simp only;split<;>rfl
         |_=>rfl
        |_=>rfl
       |_=>rfl
      .rw[zq hc,zq hc];rfl
 have h5:∀ts a b,Ll P bs ts a b=(FI P bs ts a b).map fun y=>(y.1,bP y.2 bs):=by
  intro ts a b;unfold Ll FI;cases rY P (ts.getD 0 0)with
  |none=>rfl
  |some et=>
   cases a with
   |none=>rfl
   |some sa=>
    cases b with
    |none=>rfl
    |some sb=>
     simp only;cases zY P bs (ts.getD 1 0) sb with
     |none=>rfl
     |some y=>
      cases Qi sa with
      |none=>rfl
      |some z=>
       simp only;cases ownRow bs z.1 with
       |none=>rfl
       |some u=>simp only;split<;>rfl
 unfold yR wW;generalize o.op=op;cases op<;>(try rfl)
 case store t a x=>
  simp only[h3];cases zJ P bs t (ev [] a 0) (ev [] x t)<;>rfl
 case call c=>
  obtain⟨callee,args,ts⟩:=c;cases callee with
  |builtin b=>
   cases b<;>(try rfl)
   case append=>
    simp only;obtain⟨al⟩:=args;cases o.dst with
    |none=>match al with
     | []=>rfl
     | [_]=>rfl
     | [_,_]=>rfl
     |_::_::_::_=>rfl
    |some d=>match al with
     | []=>rfl
     | [_]=>rfl
     | [a,b]=>exact h4 ..
     |_::_::_::_=>rfl
   case copy=>
    simp only;obtain⟨al⟩:=args;match al with
    | []=>rfl
    | [_]=>rfl
    | [a,b]=>
     simp only[h5];cases FI P bs ts (ev [] a (ts.getD 0 0)) (ev [] b (ts.getD 1 0))<;>rfl
    |_::_::_::_=>rfl
  |value f=>rfl
  |invoke r m=>rfl
 case convert src dst x=>
  simp only;by_cases hsd:src=dst
  .rw[aC hsd,aC hsd];cases Dz P bs src (ev [] x src)with
   |none=>rfl
   |some y=>rfl
  rw[zq hsd,zq hsd];rfl
 case mapUpdate t m k x=>
  simp only;cases Dy P bs t (ev [] m t) (tu (ev [] k 0)) (ev [] x 0)with
  |none=>rfl
  |some y=>rfl
 case next it b=>
  cases b with
  |false=>rfl
  |true=>
   simp only;cases Dx bs (ev [] it 0)with
   |none=>rfl
   |some y=>rfl
def uN(gy bs:List aL):Prop:=∀(r:Nat) (k:aL),gy[r]?=some k->k.lb≠.none->bs[r]?=some k
theorem uN.rb{gy bs:List aL}(h:uN gy bs):qz (bT gy) (bT bs):=by
 intro r b hb hn;unfold bT at hb |-;cases hk:gy[r]? with
 |none=>simp[hk]at hb
 |some k=>
  simp[hk]at hb;subst hb;rw[h r k hk hn]
theorem aey{gy bs:List aL}(h:uN gy bs){r:Nat}{y:Sh×E}(hr:ownRow gy r=some y):ownRow bs r=some y:=by
 obtain⟨s,e⟩:=y;have:=h r _ (Ey hr) (by simp);simp[ownRow,this]
theorem agk{gy bs : List aL}(h : uN gy bs){t : TypeId}{x : SX}{y : Sh × E × List Nat}(hs : zY P gy t x = some y) : zY P bs t x = some y := by
  unfold zY at hs |-;cases hu : P.underlying t with
  | none => rw [hu]at hs; cases x with
    | jo s e => cases s <;> simp at hs
    | _ => simp at hs
  | some d =>
    rw [hu]at hs;cases d with
    | slice et => cases x with
      | jo s e =>
        cases s <;>
          (simp only at hs |-
           split at hs
           . rename_i hd; rw [G6 h.rb hd]; exact hs
           . simp at hs)
      | _ =>
        simp only at hs |-;split at hs
        . rename_i hd; rw [G6 h.rb hd]; exact hs
        . simp at hs
    | string => cases x with
      | jo s e => cases s <;> first | exact hs | (simp at hs)
      | _ => simp at hs
    | _ => cases x with
      | jo s e => cases s <;> simp at hs
      | _ => simp at hs
theorem auP{gy bs:List aL}(h:uN gy bs){t:TypeId}{a x:Option SX}{cs:List fV}(hs:zJ P gy t a x=some cs):zJ P bs t a x=some cs:=by
 unfold zJ at hs |-;split at hs
 .split at hs
  .rename_i hf;simp only[hf,eO];split at hs
   .rename_i hb;rw[h _ _ hb (by simp)];simp only;unfold JX at hs |-;split at hs
    next hd=>rw[G6 h.rb hd];exact hs
    simp at hs
   .rename_i hb;rw[h _ _ hb (by simp)];simp only;unfold JZ at hs |-;split at hs
    .exact hs
    .split at hs
     next hr=>rw[zA h.rb hr];exact hs
     simp at hs
    .simp at hs
   simp at hs
  .simp at hs
 simp at hs
theorem auW(P:Program)(et t:TypeId)(x:SX):(∃z,∀bs,uP P bs et t x=z)\/∀bs,uP P bs et t x=zY P bs t x:=by
 cases hu:P.underlying t with
 |none=>
  right;intro bs;unfold uP;rw[hu];cases x with
  |jo s e=>cases s<;>rfl
  |_=>rfl
 |some d=>
  cases x with
  |jo s e=>cases s with
   |int k=>cases d with
    |int q=>left;exact⟨_,fun bs=>by unfold uP;rw[hu]⟩
    |_=>right;intro bs;unfold uP;rw[hu]
   |_=>right;intro bs;unfold uP;rw[hu]
  |_=>right;intro bs;unfold uP;rw[hu]
theorem axg{gy bs:List aL}(h:uN gy bs){et t:TypeId}{x:SX}{y:Sh×E×List Nat}(hs:uP P gy et t x=some y):uP P bs et t x=some y:=by
 rcases auW P et t x with⟨z,hz⟩|hz
 .rw[hz]at hs |-;exact hs
 rw[hz]at hs |-;exact agk h hs
theorem auu{gy bs:List aL}(h:uN gy bs){k:Bool}{ts:Array TypeId}{d:Nat}(hd:gy[d]?=bs[d]?){a b:Option SX}{y:SX×List fV×List Ob}(hs:Hl P k gy ts d a b=some y):Hl P k bs ts d a b=some y:=by
 have hfree:tq gy d=tq bs d:=by unfold tq;rw[hd]
 unfold Hl at hs |-;split at hs
 .split at hs
  .simp at hs
  .rename_i hsrc;rw[axg h hsrc];simp only;split at hs
   .rename_i hc;rw[aC hc];split at hs
    .rw[hfree]at hs;exact hs
    .split at hs
     next hr=>rw[aey h hr];simp only;rw[hfree]at hs;exact hs
     .simp at hs
    simp at hs
   .simp at hs
 simp at hs
theorem awM{gy bs:List aL}(h:uN gy bs){ts:Array TypeId}{a b:Option SX}{y:SX×List fV}(hs:FI P gy ts a b=some y):FI P bs ts a b=some y:=by
 unfold FI at hs |-;split at hs
 .split at hs
  .rename_i hsrc hdst;rw[agk h hsrc,hdst];simp only;split at hs
   next hr=>rw[aey h hr];exact hs
   simp at hs
  .simp at hs
 simp at hs
theorem awq{gy bs:List aL}(h:uN gy bs){t:TypeId}{m x:Option SX}{k:Option (IntKind×E)}{y:Nat×aL}(hs:Dy P gy t m k x=some y):Dy P bs t m k x=some y:=by
 unfold Dy at hs |-;split at hs
 .split at hs
  next hb=>rw[h _ _ hb (by simp)];exact hs
  .simp at hs
 simp at hs
theorem awo{gy bs:List aL}(h:uN gy bs){it:Option SX}{y:SX×Nat×aL}(hs:Dx gy it=some y):Dx bs it=some y:=by
 unfold Dx at hs |-;split at hs
 .split at hs
  next hb=>rw[h _ _ hb (by simp)];exact hs
  .simp at hs
 simp at hs
theorem atG{gy bs:List aL}(h:uN gy bs){r:Nat}{y:Sh×E}(hs:ownRow gy r=some y):ownRow bs r=some y:=by
 obtain⟨s,e⟩:=y;have h1:=Ey hs;have h2:=h _ _ h1 (by simp);unfold ownRow;rw[h2]
theorem awu{gy bs:List aL}(h:uN gy bs){t:TypeId}{x:Option SX}{y:Sh×E×Nat}(hs:Dz P gy t x=some y):Dz P bs t x=some y:=by
 unfold Dz at hs |-;split at hs
 .split at hs
  next hu hb=>rw[hu,atG h hb];exact hs
  .simp at hs
 simp at hs
theorem axz{gy bs:List aL}(h:uN gy bs)(hd:∀d,o.dst=some d->gy[d]?=bs[d]?){y:SX×List fV×List Ob}(hs:wW P cfg o ev gy=some y):wW P cfg o ev bs=some y:=by
 unfold wW at hs |-;split at hs
 .split at hs
  next hst=>rw[auP h hst];exact hs
  simp at hs
 .split at hs
  next hdst=>exact auu h (hd _ hdst) hs
  simp at hs
 .split at hs
  .split at hs
   next hc=>rw[awM h hc];exact hs
   .simp at hs
  simp at hs
 .split at hs
  .rename_i hsd;rw[aC hsd];split at hs
   next hb=>rw[awu h hb];exact hs
   .simp at hs
  simp at hs
 .split at hs
  next hb=>rw[awq h hb];exact hs
  simp at hs
 .split at hs
  next hb=>rw[awo h hb];exact hs
  .simp at hs
 simp at hs
theorem CQ(F:List Nat)(bs:List aL)(r:Nat):(lK F bs)[r]?=(bs[r]?).map fun b=>if F.contains r then b else ako:=by
 simp[lK,List.getElem?_mapIdx]
theorem J9(F:List Nat)(bs:List aL):uN (lK F bs) bs:=by
 intro r k hk hn;rw[CQ]at hk;cases hb:bs[r]? with
 |none=>simp[hb]at hk
 |some b=>
  simp only[hb,yL,dP]at hk;split at hk
  .rw[hk]
  subst hk;exact absurd rfl hn
theorem axA{bs:List aL}{y:SX×List fV×List Ob×Nat}(h:yA P cfg o ev bs nv=some y):yS P cfg o ev bs nv=some (y.1,bP y.2.1 bs,y.2.2.1,y.2.2.2):=by
 unfold yA at h;unfold yS;split at h
 .rename_i f args ts d hop hd;split at h
  .cases h
  .rename_i hg;split at h
   .rename_i hf;simp only[hop,hd,zq hg,aC hf];unfold Fg;split at h
    .rename_i s aK hr
     (try simp only[hr])
     split at h
     .rename_i l fz ha
      (try simp only[ha])
      split at h
      next hc=>rw[aC hc];obtain rfl:=yI h;simp only[MR,xP];rfl
      cases h
     .cases h
    cases h
   .cases h
 cases h
theorem axB{gy bs:List aL}(hb:qz (bT gy) (bT bs))(hd:∀d,o.dst=some d->gy[d]?=bs[d]?){y:SX×List fV×List Ob×Nat}(h:yA P cfg o ev gy nv=some y):yA P cfg o ev bs nv=some y:=by
 unfold yA at h |-;split at h
 .rename_i f args ts d hop hdst;split at h
  .cases h
  .rename_i hg;rw[zq hg];split at h
   .rename_i hf;rw[aC hf];split at h
    .rename_i s aK hr;split at h
     .rename_i l fz ha;rw[Kl hb ha];simp only;have:tq bs d=tq gy d:=by unfold tq;rw[hd d hdst]
      rw[this];exact h
     .cases h
    cases h
   .cases h
 cases h
theorem avb{bs:List aL}{ev':Ev}(h:mM o.op.operands.toList ev ev'):yA P cfg o ev bs nv=yA P cfg o ev' bs nv:=by
 unfold yA;split
 .rename_i f args ts d hop hdst;rw[hop]at h;have ha:mM args.toList ev ev':=fun x hx=>h x (by simp[Op.operands,Call.operands];exact .inr (by simpa using hx));split
  .rfl
  .split
   .split
    .rw[Et ha]
    rfl
   .rfl
 rfl
theorem auk{F:List Nat}{bs:List aL}(hd:∀d,o.dst=some d->F.contains d=true){y:SX×List fV×Nat×List Ob}(h:coreC P cfg o pc ev (lK F bs) nv=some y):coreC P cfg o pc ev bs nv=some y:=by
 have hdd:∀d,o.dst=some d->(lK F bs)[d]?=bs[d]?:=by
  intro d e;rw[CQ,hd d e];cases bs[d]?<;>rfl
 unfold coreC at h |-;split at h
 .rename_i hc;rw[aC hc];split at h
  .rename_i hp;rw[aC hp];cases hw:wW P cfg o ev (lK F bs)with
   |none=>simp[hw]at h
   |some z=>rw[hw]at h;rw[axz (J9 F bs) hdd hw];exact h
  simp at h
 .rename_i hc;rw[zq hc];split at h
  .rename_i hg;rw[aC hg];split at h
   .rename_i hp;rw[aC hp];cases hw:yA P cfg o ev (lK F bs) nv with
    |none=>simp[hw]at h
    |some z=>rw[hw]at h;rw[axB (J9 F bs).rb hdd hw];exact h
   simp at h
  .rename_i hg;rw[zq hg];cases hx:iI P cfg o pc ev (bT (lK F bs)) nv with
   |none=>simp[hx]at h
   |some out=>
    rw[hx]at h;rw[aiU (J9 F bs).rb (fun d e hn=>by unfold jU bT at hn |-;rw[hdd d e]at hn;exact hn) hx];exact h
theorem awK{bs:List aL}{x:SX}{cs:List fV}{n:Nat}{ob:List Ob}(h:coreC P cfg o pc ev bs nv=some (x,cs,n,ob)):core P cfg o pc ev bs nv=some (x,bP cs bs,n,ob):=by
 unfold coreC at h;unfold core;split at h
 .rename_i hc;rw[aC hc];split at h
  .rename_i hp;rw[aC hp];rw[axy];cases hw:wW P cfg o ev bs with
   |none=>simp[hw]at h
   |some z=>
    obtain⟨x',cs',ob'⟩:=z;simp only[hw]at h;simp only[yL];split at h
    next hv=>simp at h;obtain⟨rfl,rfl,rfl,rfl⟩:=h;rw[aC hv]
    .simp at h
  simp at h
 .rename_i hc;rw[zq hc];split at h
  .rename_i hg;rw[aC hg];split at h
   .rename_i hp;rw[aC hp];cases hw:yA P cfg o ev bs nv with
    |none=>simp[hw]at h
    |some z=>
     obtain⟨x',cs',ob',n'⟩:=z;rw[axA hw];simp only[hw]at h;simp only;split at h
     next hv=>simp at h;obtain⟨rfl,rfl,rfl,rfl⟩:=h;rw[aC hv]
     .simp at h
   simp at h
  .rename_i hg;rw[zq hg];cases hx:iI P cfg o pc ev (bT bs) nv with
   |none=>simp[hx]at h
   |some out=>
    simp only[hx]at h |-;split at h
    next hv=>simp at h;obtain⟨rfl,rfl,rfl,rfl⟩:=h;rw[aC hv]
    simp at h
theorem RG{φ:Oper->FP}{ops:List Oper}{S:SS}{y:SS×List Ob}(h:tK P cfg φ ops o S=some y):uM P cfg ops o S=some y:=by
 unfold tK at h;split at h
 .simp at h
 .rename_i pc hg;cases hc:coreC P cfg o pc (S.ev P) (lK (φ o).F S.jd) S.nv with
  |none=>simp[hc]at h
  |some z=>
   obtain⟨x,cs,n,ob⟩:=z;simp only[hc]at h;by_cases hok:(cs.all (DF (φ o))&&Lj (φ o) o)=true
   .rw[aC hok]at h;simp only[bB]at hok;simp only[dP]at h;subst h;refine JU.2 ⟨pc,x,_,n,hg,awK (auk (fun d e=>?_) hc),rfl⟩;have:=hok.2;simp only[Lj,e]at this;exact this
   rw[zq hok]at h;cases h
theorem ax9(c d:fV)(h:(match c,d with| .put r _,.put q _=>r≠q| .put r _,.bM q=>r≠q| .bM r,.put q _=>r≠q| .bM _,.bM _=>True))(bs:List aL):c.run (d.run bs)=d.run (c.run bs):=by
 apply Ja;intro i;cases c with
 |put r b=>cases d with
  |put q b'=>
   simp only[fV.run];simp only at h;rw[List.set_comm _ _ (fun e=>h e.symm)]
  |bM q=>
   simp only[fV.run,Jc,uZ,List.length_modify];simp only at h;by_cases h1:r=i<;>by_cases h2:q=i<;>simp_all
 |bM r=>cases d with
  |put q b'=>
   simp only[fV.run,Jc,uZ,List.length_modify];simp only at h;by_cases h1:r=i<;>by_cases h2:q=i<;>simp_all
  |bM q=>
   simp only[fV.run,uZ];by_cases h1:r=i<;>by_cases h2:q=i<;>simp_all
theorem abV(c:fV):∀(ds:List fV) (bs:List aL),(∀d∈ds,∀bs,c.run (d.run bs)=d.run (c.run bs))->c.run (bP ds bs)=bP ds (c.run bs)
 | [],bs,_=>rfl
 |d::ds,bs,h=>by
  show c.run (bP ds (d.run bs))=bP ds (d.run (c.run bs));rw[abV c ds (d.run bs) (fun d' hd'=>h d' (by simp[hd'])),h d (by simp) bs]
theorem abW:∀(cs ds:List fV) (bs:List aL),(∀c∈cs,∀d∈ds,∀bs,c.run (d.run bs)=d.run (c.run bs))->bP cs (bP ds bs)=bP ds (bP cs bs)
 | [],ds,bs,_=>rfl
 |c::cs,ds,bs,h=>by
  show bP cs (c.run (bP ds bs))=bP ds (bP cs (c.run bs));rw[abV c ds bs (h c (by simp)),abW cs ds (c.run bs) (fun c' hc'=>h c' (by simp[hc']))]
theorem EH{a b:List Nat}(h:apart a b=true){r q:Nat}(hr:r∈a)(hq:q∈b):r≠q:=by
 intro e;subst e;simp only[apart,pR,zl]at h;have:=h r hr;simp[hq]at this
theorem ady:∀(cs:List fV) (bs:List aL) (r:Nat),(∀c∈cs,(match c with| .put q _=>q≠r| .bM q=>q≠r))->(bP cs bs)[r]?=bs[r]?
 | [],_,_,_=>rfl
 |c::cs,bs,r,h=>by
  show(bP cs (c.run bs))[r]?=_;rw[ady cs _ r (fun c' hc'=>h c' (by simp[hc']))];have:=h c (by simp);cases c with
  |put q b=>simp only[fV.run];exact fZ this
  |bM q=>simp only[fV.run,uZ];simp only at this;simp[this]
theorem aeo:∀(cs:List fV) (bs:List aL) (r:Nat),(∀c∈cs,(match c with| .put q _=>q≠r| .bM _=>True))->bT (bP cs bs) r=bT bs r
 | [],_,_,_=>rfl
 |c::cs,bs,r,h=>by
  show bT (bP cs (c.run bs)) r=_;rw[aeo cs _ r (fun c' hc'=>h c' (by simp[hc']))];have:=h c (by simp);cases c with
  |put q b=>simp only[fV.run,bT];rw[fZ this]
  |bM q=>
   simp only[fV.run,bT,uZ];cases bs[r]? with
   |none=>rfl
   |some k=>by_cases hq:q=r<;>simp[hq]
theorem auj{F:List Nat}{bs bs':List aL}(h:∀r,r∈F->bs'[r]?=bs[r]?)(hl:bs'.length=bs.length):lK F bs'=lK F bs:=by
 apply Ja;intro r;rw[CQ,CQ];by_cases hr:r∈F
 .rw[h r hr]
 have hc:F.contains r=false:=by simpa using hr
 simp only[hc];by_cases hlt:r<bs.length
 .rw[nL hlt,nL (by omega)];rfl
 rw[Jd (by omega),Jd (by omega)]
theorem MH:∀(cs:List fV) (bs:List aL),(bP cs bs).length=bs.length
 | [],_=>rfl
 |c::cs,bs=>by
  show(bP cs (c.run bs)).length=_;rw[MH cs];cases c<;>simp[fV.run]
theorem axl{F:List Nat}{bs bs':List aL}(h:∀r,r∈F->bT bs' r=bT bs r)(hl:bs'.length=bs.length):bT (lK F bs')=bT (lK F bs):=by
 funext r
 unfold bT at h |-;rw[CQ,CQ];by_cases hr:r∈F
 .have hc:F.contains r=true:=by simpa using hr
  have:=h r hr;simp only[hc,eO];cases h1:bs'[r]?<;>cases h2:bs[r]?<;>simp[h1,h2]at this |- <;>exact this
 have hc:F.contains r=false:=by simpa using hr
 simp only[hc];by_cases hlt:r<bs.length
 .rw[nL hlt,nL (by omega)];rfl
 rw[Jd (by omega),Jd (by omega)]
theorem adY{bs:List aL}{ev':Ev}(h:mM o.op.operands.toList ev ev'):coreC P cfg o pc ev bs nv=coreC P cfg o pc ev' bs nv:=by
 have hw:wW P cfg o ev bs=wW P cfg o ev' bs:=by
  unfold wW;generalize o.op=op at h;cases op<;>simp only[Op.operands]at h<;>(try rfl)
  case store t a x=>
   simp only;rw[h a (by simp),h x (by simp)]
  case call c=>
   obtain⟨callee,args,ts⟩:=c;have ha:mM args.toList ev ev':=fun x hx=>h x (by simp[Call.operands];exact .inr (by simpa using hx));cases callee with
   |builtin b=>
    cases b<;>simp only
    .split
     next x y d hl hd=>rw[ha x (by simp[hl]),ha y (by simp[hl])]
     .rfl
    split
    next x y hl=>rw[ha x (by simp[hl]),ha y (by simp[hl])]
    rfl
   |value f=>rfl
   |invoke r m=>rfl
  case convert src dst x=>
   simp only;rw[h x (by simp)]
  case mapUpdate t m k x=>
   simp only;rw[h m (by simp),h k (by simp),h x (by simp)]
  case next it b=>
   cases b with
   |true=>simp only;rw[h it (by simp)]
   |false=>rfl
 unfold coreC;rw[hw,afs h,avb h]
theorem adZ{F:List Nat}{bs:List aL}{cs:List fV}{qY:Nat}(hput:∀c∈cs,∀r∈F,(match c with| .put q _=>q≠r| .bM q=>Jk cfg o=true->q≠r))(hn:qY=nv\/Cy cfg o=false):
  coreC P cfg o pc ev (lK F (bP cs bs)) qY=coreC P cfg o pc ev (lK F bs) nv:=by
 unfold coreC;have same:Jk cfg o=true->lK F (bP cs bs)=lK F bs:=fun hw=>by
  refine auj (fun r hr=>ady cs bs r fun c hc=>?_) (MH cs bs);have:=hput c hc r hr;cases c with
  |put q b=>exact this
  |bM q=>exact this hw
 by_cases hw:cls cfg o=.W
 .rw[aC hw,aC hw,same (by simp[Jk,hw])]
 by_cases hg:cls cfg o=.G
 .have xH:qY=nv:=by
   rcases hn with h|h
   .exact h
   .simp[Cy,hg]at h
  rw[zq hw,zq hw,aC hg,aC hg,same (by simp[Jk,hg]),xH]
 have e:bT (lK F (bP cs bs))=bT (lK F bs):=by
  refine axl (fun r hr=>aeo cs bs r fun c hc=>?_) (MH cs bs);have:=hput c hc r hr;cases c with
  |put q b=>exact this
  |bM q=>trivial
 rw[zq hw,zq hw,zq hg,zq hg,e];have e2:iI P cfg o pc ev (bT (lK F bs)) qY=iI P cfg o pc ev (bT (lK F bs)) nv:=by
  rcases hn with h|h
  .rw[h]
  .exact KN (by simp[Cy]at h;exact h.1)
 rw[e2]
def oH(b:RB):Option (Option Sh×bq):=match b with|⟨.row s _,p⟩=>some (some s,p)|⟨.box _,p⟩=>some (none,p)|_=>none
theorem afl{rb eH:Rb}(h:∀r,(rb r).bind oH=(eH r).bind oH)(r:Nat):(rowOf rb pc r).map (·.1)=(rowOf eH pc r).map (·.1):=by
 have h:=h r;have key:∀rb:Rb,(rowOf rb pc r).map (·.1)=((rb r).bind oH).bind fun y=>if zF y.2 pc then y.1 else none:=by
  intro rb;unfold rowOf;cases rb r with
  |none=>rfl
  |some k=>
   obtain⟨lb,p⟩:=k;cases lb with
   |row s e=>
    simp only[oH,Option.bind_some];split<;>rfl
   |box cs=>
    simp only[oH,Option.bind_some];split<;>rfl
   |_=>rfl
 rw[key,key,h]
theorem awv{rb eH:Rb}(h:∀r,(rb r).bind oH=(eH r).bind oH)(r:Nat):rA rb pc r=rA eH pc r:=by
 have key:∀rb:Rb,rA rb pc r=match(rb r).bind oH with|some y=>zF y.2 pc|none=>false:=by
  intro rb;unfold rA;cases rb r with
  |none=>rfl
  |some k=>
   obtain⟨lb,p⟩:=k;cases lb<;>rfl
 rw[key,key,h]
theorem atV{rb eH:Rb}(h:∀r,(rb r).bind oH=(eH r).bind oH)(t:TypeId)(x:Option SX)(i:Option (IntKind×E)):Bo P rb pc t x i=Bo P eH pc t x i:=by
 unfold Bo;cases rY P t with
 |none=>rfl
 |some et=>
  cases x with
  |none=>rfl
  |some x=>
   cases i with
   |none=>cases x<;>first|rfl|(rename_i sh _;cases sh<;>rfl)
   |some i=>
    cases x with
    |jo sh e=>cases sh<;>rfl
    |full r n=>
     have h1:=afl (pc:=pc) h r;simp only;cases h2:rowOf rb pc r<;>cases h3:rowOf eH pc r<;>simp only[h2,h3,Option.map_none,yL,reduceCtorEq,dP]at h1 |-;rw[h1]
    |view r off n=>
     have h1:=afl (pc:=pc) h r;simp only;cases h2:rowOf rb pc r<;>cases h3:rowOf eH pc r<;>simp only[h2,h3,Option.map_none,yL,reduceCtorEq,dP]at h1 |-;rw[h1]
    |_=>rfl
theorem avk{rb eH:Rb}(h:∀r,(rb r).bind oH=(eH r).bind oH)(t:TypeId)(x:Option SX)(i:Option (IntKind×E)):Bw P rb pc t x i=Bw P eH pc t x i:=by
 unfold Bw;split
 .unfold BX;simp only[awv h]
 exact atV h t x i
theorem agZ{bs bs':List aL}{qY:Nat}(ho:P8 o=true)(h:∀r,(bT bs' r).bind oH=(bT bs r).bind oH):coreC P cfg o pc ev bs' qY=coreC P cfg o pc ev bs nv:=by
 unfold P8 at ho;split at ho
 .rename_i t x i hop;have hc:cls cfg o=.R:=by simp[cls,hop]
  unfold coreC;simp only[hc,reduceCtorEq,pY,iI,nJ,yw,hop,avk h]
 cases ho
theorem aeh{bs:List aL}{y:SX×List fV×Nat×List Ob}(ho:P7 o=true)(h:coreC P cfg o pc ev bs nv=some y):∃(f:List Nat) (r:Nat) (k k':aL),y.2.1=f.map .bM++ [.put r k']/\bs[r]?=some k/\k.lb≠.none/\oH ⟨k'.lb,k'.dO⟩=oH ⟨k.lb,k.dO⟩:=by
 unfold P7 at ho;split at ho
 .rename_i t a x hop;have hc:cls cfg o=.W:=by simp[cls,hop]
  unfold coreC at h;rw[aC hc]at h;split at h
  .have key:∀cs,zJ P bs t (ev [] a 0) (ev [] x t)=some cs->∃(f:List Nat) (r:Nat) (k k':aL),cs=f.map .bM++ [.put r k']/\bs[r]?=some k/\k.lb≠.none/\oH ⟨k'.lb,k'.dO⟩=oH ⟨k.lb,k.dO⟩:=by
    intro cs hs;unfold zJ at hs;split at hs
    .split at hs
     .split at hs
      .rename_i hb;unfold JX at hs;split at hs
       .split at hs
        .split at hs
         .split at hs
          .simp at hs;exact⟨_,_,_,_,hs.symm,hb,by simp,rfl⟩
          .simp at hs
         split at hs
         .simp at hs;exact⟨_,_,_,_,hs.symm,hb,by simp,rfl⟩
         simp at hs
        .simp at hs
       simp at hs
      .rename_i hb;unfold JZ at hs;split at hs
       .split at hs
        .simp at hs;exact⟨[],_,_,_,hs.symm,hb,by simp,rfl⟩
        simp at hs
       .split at hs
        .split at hs
         .simp at hs;exact⟨[],_,_,_,hs.symm,hb,by simp,rfl⟩
         simp at hs
        .simp at hs
       simp at hs
      .simp at hs
     simp at hs
    .simp at hs
   simp only[wW,hop]at h;cases hs:zJ P bs t (ev [] a 0) (ev [] x t)with
   |none=>simp[hs]at h
   |some cs=>
    simp only[hs]at h;split at h
    .simp at h;subst h;exact key cs hs
    simp at h
  .simp at h
 cases ho
theorem ae9{F:List Nat}{bs:List aL}{f:List Nat}{r:Nat}{k k':aL}(hk:bs[r]?=some k)(hs:oH ⟨k'.lb,k'.dO⟩=oH ⟨k.lb,k.dO⟩):
  ∀q,(bT (lK F (bP (f.map .bM++ [.put r k']) bs)) q).bind oH=(bT (lK F bs) q).bind oH:=by
 intro q;unfold bT;rw[CQ,CQ,MR];have e1:bP [fV.put r k'] (bP (f.map .bM) bs)=(bP (f.map .bM) bs).set r k':=rfl;rw[e1];have hfr:∀q,bT (bP (f.map .bM) bs) q=bT bs q:=fun q=>by rw[NU]
 have hlen:(bP (f.map .bM) bs).length=bs.length:=MH _ _;have hr:r<bs.length:=(zy.1 hk).1;by_cases hq:r=q
 .subst hq;rw[nV (by omega),hk];cases F.contains r<;>simp[hs]
 rw[fZ hq];have:=hfr q;unfold bT at this;cases h1:(bP (f.map .bM) bs)[q]? with
 |none=>cases h2:bs[q]? with
  |none=>rfl
  |some y=>simp[h1,h2]at this
 |some x=>cases h2:bs[q]? with
  |none=>simp[h1,h2]at this
  |some y=>
   simp only[h1,h2,dP,RB.mk.injEq]at this;simp only[yL];cases F.contains q<;>simp[this.1,this.2]
theorem Nq{φ:Oper->FP}{ops:List Oper}{S S':SS}{ji:List Ob}:tK P cfg φ ops o S=some (S',ji)↔
  ∃pc x cs n,wF S ops o=some pc/\coreC P cfg o pc (S.ev P) (lK (φ o).F S.jd) S.nv=some (x,cs,n,ji)/\cs.all (DF (φ o))=true/\Lj (φ o) o=true/\
   S'= {tmps:=eT S.tmps o.dst ⟨pc,x⟩,jd:=bP cs S.jd,nv:=S.nv+n}:=by
 unfold tK;cases hg:wF S ops o with
 |none=>simp
 |some pc=>
  simp only[dP];cases hc:coreC P cfg o pc (S.ev P) (lK (φ o).F S.jd) S.nv with
  |none=>
   simp;intro _ _ _ h;simp[hc]at h
  |some z=>
   obtain⟨x,cs,n,ob⟩:=z;simp only;by_cases hok:(cs.all (DF (φ o))&&Lj (φ o) o)=true
   .rw[aC hok];simp only[bB]at hok;constructor
    .intro h;simp only[dP,iG]at h;obtain⟨rfl,rfl⟩:=h;exact⟨pc,x,cs,n,rfl,hc,hok.1,hok.2,rfl⟩
    .rintro ⟨_,_,_,_,rfl,h,_,_,rfl⟩;rw[hc]at h;simp only[dP,iG]at h;obtain⟨rfl,rfl,rfl,rfl⟩:=h;rfl
   rw[zq hok];constructor
   .intro h;cases h
   rintro ⟨_,_,_,_,rfl,h,h1,h2,_⟩;rw[hc]at h;simp only[dP,iG]at h;obtain⟨rfl,rfl,rfl,rfl⟩:=h;exact absurd (by rw[h1,h2];rfl) hok
theorem CW{φ:Oper->FP}{ops:List Oper}{S S':SS}{ji:List Ob}(h:tK P cfg φ ops o S=some (S',ji)):S'.nv=S.nv+(ji.map Ob.vars).sum:=xS (RG h)
theorem Nk{bs:List aL}{x:SX}{cs:List fV}{n:Nat}{ob:List Ob}(h:coreC P cfg o pc ev bs nv=some (x,cs,n,ob))(hc:Cy cfg o=false):n=0:=by
 have hb:cls cfg o≠.call/\cls cfg o≠.G:=by simpa[Cy]using hc
 unfold coreC at h;split at h
 .split at h
  .split at h
   .split at h
    .simp at h;exact h.2.2.1.symm
    .simp at h
   simp at h
  .simp at h
 split at h
 next hg=>exact absurd hg hb.2
 split at h
 .rename_i out hx;split at h
  .simp at h;rw[<-h.2.2.1];exact(EL hx).1 hb.1
  .simp at h
 simp at h
theorem auQ{φ:Oper->FP}{ops:List Oper}{a x:Oper}{S S1 S2:SS}{nu jX:List Ob}(hi:KP cfg φ ops a x=true)(h1:tK P cfg φ ops a S=some (S1,nu))(h2:tK P cfg φ ops x S1=some (S2,jX)):
  ∃yZ,tK P cfg φ ops x S=some (yZ,jX)/\tK P cfg φ ops a yZ=some (S2,nu)/\(iA nu=0\/iA jX=0):=by
 have hv1:=CW h1;have hv2:=CW h2;obtain⟨pc,x1,cs1,n1,hg,hc1,hm1,hd1,rfl⟩:=Nq.1 h1;obtain⟨pc',x2,cs2,n2,hg',hc2,hm2,hd2,rfl⟩:=Nq.1 h2;simp only[KP,bB,Bool.or_eq_true,zl]at hi;obtain⟨hi1,hi2,e1,e2,e3,e4,e5,e6,e7,e8⟩:=hi;have hlx:∀t∈looks ops x,a.dst≠some t:=by
  intro t ht e;rw[e]at hi1;simp at hi1;exact hi1.1 ht
 have hdd:∀d,a.dst=some d->x.dst≠some d:=by
  intro d e;rw[e]at hi1;simp at hi1;exact hi1.2
 have hla:∀t∈looks ops a,x.dst≠some t:=by
  intro t ht e;rw[e]at hi2;simp at hi2;exact hi2 ht
 have ax:∀t∈looks ops x,(eT S.tmps a.dst ⟨pc,x1⟩)[t]?=S.tmps[t]?:=fun t ht=>Np (hlx t ht);have aa:∀t∈looks ops a,(eT S.tmps x.dst ⟨pc',x2⟩)[t]?=S.tmps[t]?:=fun t ht=>Np (hla t ht);rw[MF (S:=S) ax]at hg';rw[adY (N8 (S:=S) ax)]at hc2;simp only[pR]at hm1 hm2;have in1:∀c∈cs1,(match c with| .put r _=>r∈(φ a).W| .bM r=>r∈(φ a).Z):=by
  intro c hc;have:=hm1 c hc;cases c with
  |put r b=>simpa[DF]using this
  |bM r=>simpa[DF]using this
 have in2:∀c∈cs2,(match c with| .put r _=>r∈(φ x).W| .bM r=>r∈(φ x).Z):=by
  intro c hc;have:=hm2 c hc;cases c with
  |put r b=>simpa[DF]using this
  |bM r=>simpa[DF]using this
 have hn:n1=0\/n2=0:=by
  rcases e8 with h|h
  .exact .inl (Nk hc1 h)
  .exact .inr (Nk hc2 h)
 have hx:coreC P cfg x pc' (S.ev P) (lK (φ x).F S.jd) S.nv=some (x2,cs2,n2,jX):=by
  rw[<-hc2];rcases e1 with e1|e1;rotate_left
  .obtain ⟨f,r,k,k',q1,q2,q3,q4⟩:=aeh e1.1 hc1;simp only at q1;subst q1;exact(agZ e1.2 (ae9 (J9 _ _ r k q2 q3) q4)).symm
  refine(adZ (fun c hc r hr=>?_) ?_).symm
  .have:=in1 c hc;cases c with
   |put q b=>exact EH e1 this hr
   |bM q=>
    intro hw;rcases e6 with h|h
    .rw[h]at hw;cases hw
    exact EH h this hr
  .cases hcx:Cy cfg x with
   |true=>
    left;have:n1=0:=by
     rcases e8 with h|h
     .exact Nk hc1 h
     .rw[h]at hcx;cases hcx
    simp[this]
   |false=>exact .inr rfl
 refine⟨{tmps:=eT S.tmps x.dst ⟨pc',x2⟩,jd:=bP cs2 S.jd,nv:=S.nv+n2},Nq.2 ⟨pc',x2,cs2,n2,hg',hx,by simpa[pR]using hm2,hd2,rfl⟩,
  Nq.2 ⟨pc,x1,cs1,n1,?_,?_,by simpa[pR]using hm1,hd1,?_⟩,?_⟩
 .rw[MF (S:=S) aa];exact hg
 .rw[adY (N8 (S:=S) aa),<-hc1];rcases e2 with e2|e2;rotate_left
  .obtain ⟨f,r,k,k',q1,q2,q3,q4⟩:=aeh e2.1 hx;simp only at q1;subst q1;exact agZ e2.2 (ae9 (J9 _ _ r k q2 q3) q4)
  refine adZ (fun c hc r hr=>?_) ?_
  .have:=in2 c hc;cases c with
   |put q b=>exact EH e2 this hr
   |bM q=>
    intro hw;rcases e7 with h|h
    .rw[h]at hw;cases hw
    .exact EH h this hr
  cases hca:Cy cfg a with
  |true=>
   left;have:n2=0:=by
    rcases e8 with h|h
    .rw[h]at hca;cases hca
    .exact Nk hc2 h
   simp[this]
  |false=>exact .inr rfl
 .rw[SS.mk.injEq];refine⟨afn hdd,?_,by simp only;omega⟩;refine(abW cs1 cs2 S.jd fun c hc d hd bs=>ax9 c d ?_ bs).symm;have i1:=in1 c hc;have i2:=in2 d hd;cases c with
  |put r b=>cases d with
   |put q b'=>exact EH e3 i1 i2
   |bM q=>exact EH e4 i1 i2
  |bM r=>cases d with
   |put q b'=>exact fun e=>EH e5 i2 i1 e.symm
   |bM q=>trivial
 simp only[iA]at*;rcases hn with h|h
 .left;omega
 right;omega
theorem afi{ρ:List C}{φ:Oper->FP}{ops:List Oper}{x:Oper}{post:List Oper}:∀{pre:List Oper}{S S':SS}{ji:List Ob},(∀a∈pre,KP cfg φ ops a x=true)->
  wU (tK P cfg φ ops) (pre++x::post) S=some (S',ji)->fG P ρ S.nv ji->
  ∃S1 nu jX,tK P cfg φ ops x S=some (S1,nu)/\wU (tK P cfg φ ops) (pre++post) S1=some (S',jX)/\fG P ρ S.nv nu/\fG P ρ S1.nv jX
 | [],S,S',ji,_,h,ho=>by
  simp only[iw,wU]at h;split at h
  .simp at h
  .rename_i S1 nu h1;split at h
   .simp at h
   next S2 jX h2=>simp at h;obtain⟨rfl,rfl⟩:=h;rw[xO]at ho;exact⟨S1,nu,jX,h1,h2,ho.1,by rw[CW h1];exact ho.2⟩
 |a::pre,S,S',ji,hi,h,ho=>by
  simp only[kS,wU]at h;split at h
  .simp at h
  .rename_i Sa Wy ha;split at h
   .simp at h
   .rename_i S2 jX h2;simp at h;obtain⟨rfl,rfl⟩:=h;rw[xO]at ho;obtain⟨S3,WC,WB,h3,h4,ho3,WI⟩:=afi (fun a' ha'=>hi a' (by simp[ha'])) h2 (by rw[CW ha];exact ho.2);obtain⟨yZ,e1,e2,e3⟩:=auQ (hi a (by simp)) ha h3;have n1:=CW ha;have n2:=CW h3;have n3:=CW e1;have n4:=CW e2;simp only[iA]at e3;refine⟨yZ,WC,Wy++WB,e1,?_,?_,?_⟩
    .simp only[kS,wU,e2,h4]
    .rcases e3 with e|e
     .rw[show S.nv=Sa.nv by omega];exact ho3
     .exact MX _ _ _ e ho3
    rw[xO];refine⟨?_,by rw[<-n4];exact WI⟩;rcases e3 with e|e
    .exact MX _ _ _ e ho.1
    rw[show yZ.nv=S.nv by omega];exact ho.1
theorem adx{φ:Oper->FP}{ops:List Oper}:∀{l:List Oper}{S:SS}{y:SS×List Ob},wU (tK P cfg φ ops) l S=some y->oM P cfg ops l S=some y
 | [],_,_,h=>h
 |o::l,S,y,h=>by
  simp only[wU]at h;split at h
  .simp at h
  .rename_i S1 nu h1;split at h
   .simp at h
   next S2 jX h2=>simp only[oM,RG h1,adx h2];exact h
end
section
variable{P:Program}{cfg:fF}{N0:Nat->Prop}{w0:Wb}{ρ:List C}{Q:Exit->Act->World->Prop}
theorem avC{ops:List Oper}{φ:Oper->FP}(hback:Vg ops=true)(KQ:ags cfg φ ops (uW ops [])=true){S':SS}(hq:∀a' w',(∃hv',aZ P N0 w0 ρ S' hv' a' w')->Q .normal a' w'):
  ∀(fuel:Nat) (listed:Array Bool) (S:SS) (hv:Nat->Value) (a:Act) (w:World) (ji:List Ob),aZ P N0 w0 ρ S hv a w->
   wU (tK P cfg φ ops) (rem listed 0 ops) S=some (S',ji)->fG P ρ S.nv ji->listed.size=ops.length->(rem listed 0 ops).length<=fuel->
   (∀i,listed.getD i false=true->∀j,((uW ops []).getD i 0).testBit j=true->listed.getD j false=true)->wpAny P .any ops.toArray Q fuel listed a w:=by
 have hgd:∀(listed:Array Bool) (i:Nat),listed.size=ops.length->i<ops.length->listed.getD i true=listed.getD i false:=by
  intro listed i h1 h2;have:i<listed.size:=by omega
  simp[Array.getD,this]
 have hnil:∀listed:Array Bool,listed.size=ops.length->Region.ready .any ops.toArray listed=[]->rem listed 0 ops=[]:=by
  intro listed hs hr;apply ahs;intro j hj;rw[kD];induction j using Nat.strongRecOn with
  |_ j ih=>
   cases hb:listed.getD j true with
   |true=>rfl
   |false=>
    exfalso;have hm:j∈Region.ready .any ops.toArray listed:=by
     rw[mem_ready];refine⟨hb,ops[j],by simp[hj],fun e he hbe=>?_⟩;have h1:=GD hback (nL hj);simp only[pR]at h1;have h2:=h1 e (by simpa using he);simp[hbe]at h2;rw[<-hgd listed e.on hs (by omega)];exact ih e.on h2 (by omega)
    rw[hr]at hm;cases hm
 intro fuel;induction fuel with
 |zero=>
  intro listed S hv a w ji hrel hrun ho hs hf hcl;have h0:rem listed 0 ops=[]:=List.length_eq_zero_iff.1 (by omega);refine⟨?_,?_⟩
  .cases hr:Region.ready .any ops.toArray listed with
   |nil=>rfl
   |cons i r=>
    have hm:i∈Region.ready .any ops.toArray listed:=by rw[hr];simp
    obtain⟨h1,o,h2,_⟩:=mem_ready.1 hm;rw[J5 (listed:=listed) (l:=ops) (k:=0) (i:=i) (x:=o) (by simpa using h2) (by simpa using h1)]at h0;simp at h0
  rw[h0]at hrun;simp[wU]at hrun;obtain⟨rfl,rfl⟩:=hrun;exact hq a w ⟨hv,hrel⟩
 |succ fuel ih=>
  intro listed S hv a w ji hrel hrun ho hs hf hcl;refine⟨fun hr=>?_,fun i hi=>?_⟩
  .rw[hnil listed hs hr]at hrun;simp[wU]at hrun;obtain⟨rfl,rfl⟩:=hrun;exact hq a w ⟨hv,hrel⟩
  obtain ⟨h1,x,h2,hall⟩:=mem_ready.1 hi;have hx:ops[i]?=some x:=by simpa using h2
  have hlt:i<ops.length:=(zy.1 hx).1;have L6:∀j,((uW ops []).getD i 0).testBit j=true->listed.getD j false=true:=by
   intro j hj;obtain⟨e,he,hb,h3⟩:=Tj ops [] i x j hx (by simpa using hj);have hl:=hall e (by simpa using he) hb;rcases h3 with rfl|h3
   .exact hl
   .exact hcl e.on hl j h3
  have hsp:=J5 (listed:=listed) (l:=ops) (k:=0) (i:=i) (x:=x) hx (by simpa using h1);have hst:=Um (listed:=listed) (l:=ops) (k:=0) (i:=i) (x:=x) hx (by simpa using h1) (by omega);rw[kD]at hst hsp;rw[hsp]at hrun;have Wi:∀b∈rem listed 0 (ops.take i),KP cfg φ ops b x=true:=by
   intro b hb;obtain⟨j,hj,hjl⟩:=Kv hb;rw[kD]at hjl;rw[sw]at hj;split at hj
   .rename_i hji;have h3:=GD (GD KQ hx) hj;simp only[Bool.or_eq_true,zl,pV]at h3;rcases h3 with(h3|h3)|h3
    .exact absurd hji h3
    .have:=L6 j h3;rw[<-hgd listed j hs (by omega),hjl]at this;cases this
    exact h3
   .cases hj
  obtain⟨S1,nu,jX,e1,e2,o1,o2⟩:=afi Wi hrun ho;have next:∀a' w',(∃hv',aZ P N0 w0 ρ S1 hv' a' w')->wpAny P .any ops.toArray Q fuel (listed.setIfInBounds i true) a' w':=by
   rintro a' w' ⟨hv',hr'⟩;refine ih _ S1 hv' a' w' jX hr' (by rw[hst];exact e2) o2 (by simpa using hs) ?_ ?_
   .rw[hst];rw[hsp]at hf;simp at hf |-;omega
   .intro q hq' j hj;by_cases hqi:i=q
    .subst hqi;exact getD_set_true (L6 j hj)
    .rw[getD_set_ne false hqi]at hq';exact getD_set_true (hcl q hq' j hj)
  unfold wpOp;simp only[h2];have hss:=RU (Q:=Q) hrel (RG e1) o1;split
  next hw=>rw[aC hw]at hss;exact .inl (Oper.wp_mono next hss)
  next hw=>rw[zq hw]at hss;exact next _ _ hss
theorem aqD{id:Nat}{ops:Array Oper}{draw:Bool}{S S':SS}{hv:Nat->Value}{a:Act}{w:World}{ji:List Ob}(hrel:aZ P N0 w0 ρ S hv a w)
  (hd:(draw&& !(CX P cfg ops.toList||Sy P cfg ops.toList S))=false) (h:oM P cfg ops.toList ops.toList S=some (S',ji)) (ho:fG P ρ S.nv ji)
  (hq:∀a' w',(∃hv',aZ P N0 w0 ρ S' hv' a' w')->Q .normal a' w'):(Code.region id ops draw).wp P Q a w:=by
 by_cases hr:(draw&& !CX P cfg ops.toList)=false
 .exact aci hrel hr h ho hq
 cases draw with
 |false=>simp at hr
 |true=>
  simp at hr;simp[hr]at hd;unfold Sy at hd;simp only[bB]at hd;obtain⟨hm,hback,KQ,hsome⟩:=hd;obtain⟨y,hy⟩:=o9.1 hsome;have hy2:=adx hy;rw[h]at hy2;injection hy2 with hy2;subst hy2;refine wp_region_any hm ?_;have key:∀(l:List Oper) (k n:Nat),k+l.length<=n->rem (Array.replicate n false) k l=l:=by
   intro l;induction l with
   |nil=>intros;rfl
   |cons o l ih=>
    intro k n hk;simp at hk;have:(Array.replicate n false).getD k true=false:=by simp[Array.getD,show k<n by omega]
    simp only[rem,this];rw[ih (k+1) n (by omega)];simp
  have hk:=key ops.toList 0 ops.size (by simp);have:=avC (Q:=Q) hback KQ hq ops.size (Array.replicate ops.size false) S hv a {w with drawn:=w.drawn+1} ji (hrel.drew _) (by rw[hk];exact hy) ho (by simp) (by rw[hk];simp)
   (fun i hi=>by exfalso;by_cases hlt:i<ops.size<;>simp[Array.getD,hlt]at hi)
  simpa using this
end
section
variable{P:Program}{N0:Nat->Prop}{w0:Wb}{ρ ρ':List C}{S:SS}{hv:Nat->Value}{a:Act}{w:World}{N:Nat->Prop}{bs:List aL}
def tQ(n:Nat)(ρ ρ':List C):Prop:=∀e:E,e.bd n=true->e.eval ρ'=e.eval ρ
theorem tQ.app(ρ σ:List C):tQ ρ.length ρ (ρ++σ):=fun e h=>E.ax0 ρ σ e h
theorem tQ.dO{n:Nat}(h:tQ n ρ ρ'){p:bq}(hp:zL n p=true):bF ρ' p↔bF ρ p:=by
 unfold zL at hp;rw[pR]at hp;exact⟨fun H x hx=>by rw[<-h _ (hp x hx)];exact H x hx,fun H x hx=>by rw[h _ (hp x hx)];exact H x hx⟩
theorem tQ.args{n:Nat}(h:tQ n ρ ρ'){l:List (Sh×E)}(hl:l.all (fun x=>x.2.bd n)=true):gB ρ' l=gB ρ l:=by
 rw[pR]at hl;exact Ca fun x hx=>by rw[h _ (hl x hx)]
def BR(n:Nat)(bs:List aL):Prop:=∀(r:Nat) (k:aL),bs[r]?=some k->zL n k.dO=true/\k.lb.bd n=true
theorem BR.row{n:Nat}(h:BR n bs){r:Nat}{s:Sh}{e:E}{p:bq}(hr:eu bs r=some (s,e,p)):zL n p=true/\e.bd n=true:=by
 unfold eu at hr;split at hr
 next hk=>simp at hr;obtain⟨rfl,rfl,rfl⟩:=hr;exact h r _ hk
 simp at hr
theorem BR.box{n:Nat}(h:BR n bs){r:Nat}{cs:List SX}{p:bq}(hr:gZ bs r=some (cs,p)):zL n p=true:=by
 unfold gZ at hr;split at hr
 next hk=>simp at hr;obtain⟨rfl,rfl⟩:=hr;exact(h r _ hk).1
 simp at hr
theorem dA.env{n:Nat}(h:tQ n ρ ρ')(hb:BR n bs){x:SX}(hx:x.bd n=true){v:Value}(H:dA w N ρ bs hv x v):dA w N ρ' bs hv x v:=by
 cases x with
 |none=>trivial
 |jo s e=>simp only[SX.bd]at hx;simp only[dA]at H |-;rw[h e hx];exact H
 |res l=>simp only[SX.bd]at hx;simp only[dA]at H |-;rw[h.args hx];exact H
 |DL r m l=>
  simp only[SX.bd,bB]at hx;obtain⟨H1,v1,vr,H2,H3,H4,H5⟩:=H;refine⟨H1,v1,vr,H2,fun s e p hr hp=>?_,by rw[h.args hx.2];exact H4,H5⟩;obtain⟨h1,h2⟩:=hb.row hr;rw[h m hx.1,h e h2];exact H3 s e p hr ((h.dO h1).1 hp)
 |full r m=>
  simp only[SX.bd]at hx;refine⟨H.1,fun s e p hr hp=>?_⟩;obtain⟨h1,h2⟩:=hb.row hr;rw[h m hx,h e h2];exact H.2 s e p hr ((h.dO h1).1 hp)
 |view r off m=>
  simp only[SX.bd,bB]at hx;refine⟨H.1,fun s e p hr hp=>?_⟩;obtain⟨h1,h2⟩:=hb.row hr;rw[h off hx.1,h m hx.2,h e h2];exact H.2 s e p hr ((h.dO h1).1 hp)
 |ref r i fo s eG=>
  simp only[SX.bd]at hx;refine⟨H.1,fun es e p hr hp=>?_,fun cs p hr hp=>?_⟩
  .obtain ⟨h1,h2⟩:=hb.row hr;rw[h i hx,h e h2];exact H.2.1 es e p hr ((h.dO h1).1 hp)
  exact H.2.2 cs p hr ((h.dO (hb.box hr)).1 hp)
 |ptr s e=>simp only[SX.bd]at hx;simp only[dA]at H |-;rw[h e hx];exact H
 |fn f=>exact H
 |FN e=>simp only[SX.bd]at hx;simp only[dA]at H |-;rw[h e hx];exact H
 |Ac t s n=>exact H
 |xG r=>exact H
 |AB r=>exact H
 |Cr s p=>simp only[SX.bd,bB]at hx;simp only[dA]at H |-;rw[h s hx.1,h p hx.2];exact H
 |okF=>exact H
theorem gV.env{n:Nat}(h:tQ n ρ ρ')(hb:BR n bs):∀{l:List SX}{vs:List Value},l.all (·.bd n)=true->gV w N ρ bs hv l vs->gV w N ρ' bs hv l vs
 | [],_,_,H=>H
 |x::l,_,hl,⟨v,r,h1,h2,h3⟩=>by
  simp only[List.all_cons,bB]at hl;exact⟨v,r,h1,h2.env h hb hl.1,gV.env h hb hl.2 h3⟩
theorem tT.env{n:Nat}{B:Nat->Prop}(h:tQ n ρ ρ')(hb:BR n bs){r:Nat}{lb:LB}(hl:lb.bd n=true)(H:tT w B N ρ bs hv r lb):tT w B N ρ' bs hv r lb:=by
 cases lb with
 |none=>trivial
 |dead=>trivial
 |row s e=>simp only[LB.bd]at hl;simp only[tT]at H |-;rw[h e hl];exact H
 |box cs=>
  simp only[LB.bd]at hl;obtain⟨g,bt,arr,h1,h2,h3,h4⟩:=H;exact⟨g,bt,arr,h1,h2,h3,h4.env h hb hl⟩
 |mp k s e=>simp only[LB.bd]at hl;simp only[tT]at H |-;rw[h e hl];exact H
 |sit s p=>simp only[LB.bd,bB]at hl;simp only[tT]at H |-;rw[h s hl.1,h p hl.2];exact H
theorem NN.env{n:Nat}{B:Nat->Prop}(h:tQ n ρ ρ')(hb:BR n bs):NN N0 B ρ' bs hv=NN N0 B ρ bs hv:=by
 funext b
 apply propext;constructor
 .exact fun H=>⟨H.1,fun r k hr hl hf hp=>H.2 r k hr hl hf ((h.dO (hb r k hr).1).2 hp)⟩
 exact fun H=>⟨H.1,fun r k hr hl hf hp=>H.2 r k hr hl hf ((h.dO (hb r k hr).1).1 hp)⟩
theorem SS.UL{n:Nat}(h:S.bd n=true){t:Nat}{ts:TS}(ht:S.tmps[t]?=some ts):zL n ts.dO=true/\ts.sx.bd n=true:=by
 simp only[SS.bd,bB,pR]at h;exact h.1 ts (Jg ht)
theorem SS.UM{n:Nat}(h:S.bd n=true):BR n S.jd:=by
 simp only[SS.bd,bB,pR]at h;exact fun r k hk=>h.2 k (Jg hk)
theorem aZ.env{n:Nat}(h:tQ n ρ ρ')(hb:S.bd n=true)(H:aZ P N0 w0 ρ S hv a w):aZ P N0 w0 ρ' S hv a w:=by
 have hbs:=SS.UM hb;refine⟨H.defers,H.Co,H.below,fun t ts ht hp=>?_,fun t ts ht hp=>?_,fun r k hr hp=>?_,fun r r' k k' g hr hr' hne hl hl' hp hp'=>?_⟩
 .obtain ⟨h1,h2⟩:=SS.UL hb ht;rw[NN.env h hbs];exact(H.tmps t ts ht ((h.dO h1).1 hp)).env h hbs h2
 .exact H.und t ts ht fun hq=>hp ((h.dO (SS.UL hb ht).1).2 hq)
 .rw[NN.env h hbs];exact(H.jd r k hr ((h.dO (hbs r k hr).1).1 hp)).env h hbs (hbs r k hr).2
 exact H.dist r r' k k' g hr hr' hne hl hl' ((h.dO (hbs r k hr).1).1 hp) ((h.dO (hbs r' k' hr').1).1 hp')
theorem MW{Post:List (Sh×C)->Prop}{Bs:List (List C->Prop)}{k:VC}:∀{ji:List Ob}{ρ:List C},Ij ρ.length ji=true->(Lf ji k).holds P Post Bs ρ->
  ∃σ,fG P (ρ++σ) ρ.length ji/\k.holds P Post Bs (ρ++σ)/\σ.length=iA ji
 | [],ρ,_,h=>⟨[],trivial,by rw[lV];exact h,rfl⟩
 | .ak p e::l,ρ,hb,h=>by
  simp only[Ij,Ob.bd,Ob.vars,qE,bB]at hb;obtain⟨h1,h2⟩:=h;obtain⟨σ,e1,e2,e3⟩:=MW (ji:=l) hb.2 h2;refine⟨σ,⟨fun hp=>?_,e1⟩,e2,by simpa[iA,Ob.vars]using e3⟩;have LW:=tQ.app ρ σ;rw[LW e hb.1.2];exact h1 ((LW.dO hb.1.1).1 hp)
 | .call p f args aK::l,ρ,hb,h=>by
  simp only[Ij,Ob.bd,Ob.vars,bB]at hb;obtain⟨res,h0,h1,h2⟩:=h;obtain⟨σ,e1,e2,e3⟩:=MW (ji:=l) (ρ:=ρ++res) (by rw[cO,h0];exact hb.2) h2;refine⟨res++σ,⟨fun hp=>?_,?_⟩,by rw[<-gJ];exact e2,?_⟩
  .have LW:=tQ.app ρ (res++σ);refine⟨?_,.inr (by simp[h0])⟩;rw[LW.args hb.1.2];have e4:((ρ++(res++σ)).drop ρ.length).take aK.length=res:=by simp[<-h0]
   rw[e4];exact h1 ((LW.dO hb.1.1).1 hp)
  .rw[<-gJ];rw[cO,h0]at e1;exact e1
  simp only[iA,jG,List.sum_cons,Ob.vars,cO]at e3 |-;omega
theorem E.aeM{base:Nat}{es:List E}(hb:base<=ρ.length):∀e:E,e.bd (base+es.length)=true->e.eval (ρ.take base++es.map (·.eval ρ))=(e.subst base es).eval ρ:=by
 intro e;induction e with
 |vq i=>
  intro h;simp only[E.bd,dQ]at h;simp only[E.subst,E.eval];by_cases hi:i<base
  .rw[aC hi];simp only[E.eval,List.getD];rw[xw (by simp;omega),List.getElem?_take_of_lt hi]
  rw[zq hi];simp only[List.getD];rw[F6 (by simp;omega)];have hl:(ρ.take base).length=base:=by simp;omega
  rw[hl];have h2:i-base<es.length:=by omega
  simp[h2]
 |_=>intro h;simp_all[E.bd,E.eval,E.subst]
end
section
variable{P:Program}{N0:Nat->Prop}{w0:Wb}{ρ:List C}{S H:SS}{hv:Nat->Value}{a:Act}{w:World}{base:Nat}{es:List E}{π:Ren}
theorem RV:∀{s:Sh}{e:E}{vs:List Value},Exact s (e.subst base es) vs->Exact s e vs
 | .sl s,e,vs,h=>by cases e<;>first|trivial|exact h
 | .jc x y,e,vs,h=>by
  cases e with
  |cons p q=>
   obtain⟨va,vb,h1,h2,h3,h4⟩:=h;exact⟨va,vb,h1,h2,RV h3,RV h4⟩
  |_=>trivial
 | .int k,e,vs,_=>by cases e<;>trivial
 | .bool,e,vs,_=>by cases e<;>trivial
 | .str,e,vs,_=>by cases e<;>trivial
 | .je,e,vs,_=>by cases e<;>trivial
 | .dB _ _,e,vs,_=>by cases e<;>trivial
 | .kP,e,vs,_=>by cases e<;>trivial
 | .fH _,e,vs,_=>by cases e<;>trivial
 | .mp _ _,e,vs,_=>by cases e<;>trivial
def tH(π:Ren)(H:SS)(hv:Nat->Value)(r:Nat):Value:=
 match rowAt H r with
 |some _=>match ren π r with
  |some (some q)=>hv q
  |_=> .slice none 0 0
 |none=>hv r
theorem NT{r:Nat}{s:Sh}{e:E}{f:Bool}(h:rowAt S r=some (s,e,f)):S.jd[r]?=some ⟨.row s e,f,[]⟩:=by
 unfold rowAt at h;split at h
 next hk=>simp at h;obtain⟨rfl,rfl,rfl⟩:=h;exact hk
 simp at h
theorem ag8{r:Nat}{cs:List SX}{f:Bool}(h:PK S r=some (cs,f)):S.jd[r]?=some ⟨.box cs,f,[]⟩:=by
 unfold PK at h;split at h
 next hk=>simp at h;obtain⟨rfl,rfl⟩:=h;exact hk
 simp at h
theorem JV:∀{l:List aL}{k:Nat},KF base es π H S k l=true->∀{i:Nat}{b:aL},l[i]?=some b->zQ base es π H S (k+i) b=true
 | [],_,_,_,_,h=>by simp at h
 |x::l,k,hw,0,b,h=>by simp at h;subst h;simp only[KF,bB]at hw;exact hw.1
 |x::l,k,hw,i+1,b,h=>by
  simp only[KF,bB]at hw;have:=JV hw.2 (i:=i) (b:=b) (by simpa using h);rwa[show k+1+i=k+(i+1) by omega]at this
theorem aeZ:∀{l m:List TS},Ht base es π H l m=true->l.length=m.length/\∀{i:Nat}{x:TS},l[i]?=some x->
  x.dO=[]/\(x.sx=.none\/∃y,m[i]?=some y/\y.dO=[]/\Ia base es π H x.sx y.sx=true)
 | [],[],_=>⟨rfl,fun h=>by simp at h⟩
 | [],_::_,h=>by simp[Ht]at h
 |_::_,[],h=>by simp[Ht]at h
 |x::l,y::m,h=>by
  simp only[Ht,bB,Bool.or_eq_true,dQ]at h;obtain⟨h1,h2⟩:=aeZ h.2;refine⟨by simp[h1],fun {i z} hz=>?_⟩;cases i with
  |zero=>
   simp at hz;subst hz;exact⟨h.1.1,h.1.2.imp id fun h3=>⟨y,by simp,h3.1,h3.2⟩⟩
  |succ i=>simpa using h2 (by simpa using hz)
theorem adz:∀{π:Ren},OU π=true->∀{r r' q:Nat},ren π r=some (some q)->ren π r'=some (some q)->r=r'
 | [],_,_,_,_,h,_=>by simp[ren]at h
 |(k,x)::π,hi,r,r',q,h,h'=>by
  simp only[OU,bB]at hi;have mem:∀{r q:Nat},ren π r=some (some q)->∃z∈π,z.2=some q:=by
   intro r q h;unfold ren at h;cases hf:π.find? fun x=>x.1==r with
   |none=>simp[hf]at h
   |some z=>simp[hf]at h;exact⟨z,List.mem_of_find?_eq_some hf,h⟩
  have cons:∀r,ren ((k,x)::π) r=if k=r then some x else ren π r:=by
   intro r;unfold ren;by_cases e:k=r<;>simp[e]
  rw[cons]at h h';by_cases e:k=r<;>by_cases e':k=r'
  .omega
  .rw[aC e]at h;rw[zq e']at h';injection h with h;subst h;obtain⟨z,hz,hz2⟩:=mem h';have:=hi.1;simp only[pR]at this;have:=this z hz;rw[hz2]at this;simp at this
  .rw[zq e]at h;rw[aC e']at h';injection h' with h';subst h';obtain⟨z,hz,hz2⟩:=mem h;have:=hi.1;simp only[pR]at this;have:=this z hz;rw[hz2]at this;simp at this
  rw[zq e]at h;rw[zq e']at h';exact adz hi.2 h h'
theorem agC{r:Nat}{k:IntKind}{s:Sh}{e:E}{f:Bool}(h:Pz S r=some (k,s,e,f)):S.jd[r]?=some ⟨.mp k s e,f,[]⟩:=by
 unfold Pz at h;split at h
 next hk=>simp at h;obtain⟨rfl,rfl,rfl,rfl⟩:=h;exact hk
 simp at h
theorem agm{r:Nat}{s p:E}{f:Bool}(h:Ph S r=some (s,p,f)):S.jd[r]?=some ⟨.sit s p,f,[]⟩:=by
 unfold Ph at h;split at h
 next hk=>simp at h;obtain⟨rfl,rfl,rfl⟩:=h;exact hk
 simp at h
structure Weak (base:Nat) (es:List E) (π:Ren) (H S:SS):Prop where
 len:H.tmps.length=S.tmps.length
 tmps:∀(t:Nat) (x:TS),H.tmps[t]?=some x->x.dO=[]/\(x.sx=.none\/∃y,S.tmps[t]?=some y/\y.dO=[]/\Ia base es π H x.sx y.sx=true)
 row:∀(r:Nat) (s:Sh) (e:E) (f:Bool) (p:bq),H.jd[r]?=some ⟨.row s e,f,p⟩->p=[]/\
  ((∃q e' f',ren π r=some (some q)/\S.jd[q]?=some ⟨.row s e',f',[]⟩/\e.subst base es=e'/\(f=false->f'=false))\/(ren π r=some none/\e.subst base es=.nil/\s.size≠0))
 box:∀(r:Nat) (cs:List SX) (f:Bool) (p:bq),H.jd[r]?=some ⟨.box cs,f,p⟩->p=[]/\∃cs' f',S.jd[r]?=some ⟨.box cs',f',[]⟩/\(f=false->f'=false)/\EU base es π H cs cs'=true
 mp:∀(r:Nat) (k:IntKind) (s:Sh) (e:E) (f:Bool) (p:bq),H.jd[r]?=some ⟨.mp k s e,f,p⟩->p=[]/\∃e' f',S.jd[r]?=some ⟨.mp k s e',f',[]⟩/\(f=false->f'=false)/\e.subst base es=e'
 sit:∀(r:Nat) (s q:E) (f:Bool) (p:bq),H.jd[r]?=some ⟨.sit s q,f,p⟩->p=[]/\∃s' q' f',S.jd[r]?=some ⟨.sit s' q',f',[]⟩/\(f=false->f'=false)/\s.subst base es=s'/\q.subst base es=q'
 inj:∀{r r' q:Nat},ren π r=some (some q)->ren π r'=some (some q)->r=r'
theorem ayt(h:Dh base es π H S=true):Weak base es π H S:=by
 simp only[Dh,bB]at h;obtain⟨h1,h2,h3⟩:=h;obtain⟨hl,ht⟩:=aeZ h1;refine⟨hl,fun t x hx=>ht hx,fun r s e f p hr=>?_,fun r cs f p hr=>?_,fun r k s e f p hr=>?_,fun r s q f p hr=>?_,fun h h'=>adz h3 h h'⟩
 .have:=JV h2 hr;rw[kD]at this;cases p with
  |cons _ _=>simp[zQ]at this
  |nil=>
   refine⟨rfl,?_⟩;simp only[zQ]at this;split at this
   .rename_i q hq;split at this
    next s' e' f' hs=>simp only[bB,dQ]at this;obtain⟨⟨rfl,h5⟩,h6⟩:=this;exact .inl ⟨q,e',f',hq,NT hs,h5,fun hf=>by simpa[hf]using h6⟩
    simp at this
   next hq=>simp only[bB,dQ,bne_iff_ne]at this;exact .inr ⟨hq,this.1,this.2⟩
   simp at this
 .have:=JV h2 hr;rw[kD]at this;cases p with
  |cons _ _=>simp[zQ]at this
  |nil=>
   refine⟨rfl,?_⟩;simp only[zQ]at this;split at this
   next cs' f' hs=>simp only[bB]at this;exact⟨cs',f',ag8 hs,fun hf=>by simpa[hf]using this.1,this.2⟩
   simp at this
 .have:=JV h2 hr;rw[kD]at this;cases p with
  |cons _ _=>simp[zQ]at this
  |nil=>
   refine⟨rfl,?_⟩;simp only[zQ]at this;split at this
   next k' s' e' f' hs=>simp only[bB,dQ]at this;obtain⟨rfl,rfl,h5,h6⟩:=this;exact⟨e',f',agC hs,fun hf=>by simpa[hf]using h6,h5⟩
   .simp at this
 have:=JV h2 hr;rw[kD]at this;cases p with
 |cons _ _=>simp[zQ]at this
 |nil=>
  refine⟨rfl,?_⟩;simp only[zQ]at this;split at this
  next s' q' f' hs=>simp only[bB,dQ]at this;obtain⟨h4,h5,h6⟩:=this;exact⟨s',q',f',agm hs,fun hf=>by simpa[hf]using h6,h4,h5⟩
  simp at this
theorem afk{r:Nat}{s:Sh}{e:E}{f:Bool}(h:S.jd[r]?=some ⟨.row s e,f,[]⟩):rowAt S r=some (s,e,f):=by unfold rowAt;rw[h]
theorem GL{bs:List aL}{r:Nat}{s:Sh}{e:E}{f:Bool}{p:bq}(h:bs[r]?=some ⟨.row s e,f,p⟩):eu bs r=some (s,e,p):=by unfold eu;rw[h]
theorem Tf{bs:List aL}{r:Nat}{cs:List SX}{f:Bool}{p:bq}(h:bs[r]?=some ⟨.box cs,f,p⟩):gZ bs r=some (cs,p):=by unfold gZ;rw[h]
theorem rowIn_row{bs:List aL}{r:Nat}{s:Sh}{e:E}{p:bq}(h:eu bs r=some (s,e,p)):∃f,bs[r]?=some ⟨.row s e,f,p⟩:=by
 unfold eu at h;split at h
 next hk=>simp at h;obtain⟨rfl,rfl,rfl⟩:=h;exact⟨_,hk⟩
 simp at h
theorem awS{bs:List aL}{r:Nat}{cs:List SX}{p:bq}(h:gZ bs r=some (cs,p)):∃f,bs[r]?=some ⟨.box cs,f,p⟩:=by
 unfold gZ at h;split at h
 next hk=>simp at h;obtain⟨rfl,rfl⟩:=h;exact⟨_,hk⟩
 simp at h
theorem headHv_row{r q:Nat}{s:Sh}{e:E}{f:Bool}(h:H.jd[r]?=some ⟨.row s e,f,[]⟩)(hq:ren π r=some (some q)):tH π H hv r=hv q:=by
 unfold tH;rw[afk h,hq]
theorem Sd{r:Nat}{s:Sh}{e:E}{f:Bool}(h:H.jd[r]?=some ⟨.row s e,f,[]⟩)(hq:ren π r=some none):tH π H hv r=.slice none 0 0:=by
 unfold tH;rw[afk h,hq]
theorem Sg{r:Nat}{cs:List SX}{f:Bool}{p:bq}(h:H.jd[r]?=some ⟨.box cs,f,p⟩):tH π H hv r=hv r:=by
 unfold tH;have:rowAt H r=none:=by unfold rowAt;rw[h]
 rw[this]
theorem GJ{r:Nat}{lb:LB}{f:Bool}{p:bq}(h:H.jd[r]?=some ⟨lb,f,p⟩)(hn:∀s e,lb≠.row s e):tH π H hv r=hv r:=by
 unfold tH;have:rowAt H r=none:=by
  unfold rowAt;rw[h];cases lb with
  |row s e=>exact absurd rfl (hn s e)
  |_=>rfl
 rw[this]
theorem adj(hw:Weak base es π H S)(hb:base<=ρ.length)(hbd:H.bd (base+es.length)=true){N:Nat->Prop}{x y:SX}{v:Value}(hx:x.bd (base+es.length)=true)
  (h:Ia base es π H x y=true) (hr:dA w N ρ S.jd hv y v):dA w N (ρ.take base++es.map (·.eval ρ)) H.jd (tH π H hv) x v:=by
 have hbs:=SS.UM hbd;have hev:∀e:E,e.bd (base+es.length)=true->e.eval (ρ.take base++es.map (·.eval ρ))=(e.subst base es).eval ρ:=fun e he=>E.aeM hb e he;unfold Ia at h;split at h
 .trivial
 next s e s' e'=>simp only[bB,dQ]at h;obtain⟨rfl,rfl⟩:=h;simp only[SX.bd]at hx;obtain⟨vs,h1,h2,h3⟩:=hr;exact⟨vs,by rw[hev e hx];exact h1,h2,RV h3⟩
 .rename_i r n r' n';simp only[bB,dQ,Bool.or_eq_true,o9]at h;obtain⟨⟨⟨⟨s,e,f⟩,hH⟩,BO⟩,hlen⟩:=h;have mQ:=NT hH;simp only[SX.bd]at hx;refine⟨⟨_,mQ,by simp⟩,fun s1 e1 p1 hr1 _=>?_⟩;rw[GL mQ]at hr1;simp at hr1;obtain⟨rfl,rfl,rfl⟩:=hr1;obtain⟨_,hcase⟩:=hw.row r s e f [] mQ;rcases hcase with⟨q,e',f',hq,hS,he,_⟩|⟨hq,_,_⟩
  .rw[BO]at hq;injection hq with hq;injection hq with hq;subst hq;obtain⟨h1,h2⟩:=hr.2 s e' [] (GL hS) (bE ρ);rw[headHv_row mQ BO];have hbe:=(hbs r _ mQ).2;simp only[LB.bd]at hbe;refine⟨h1,?_⟩;rcases hlen with hlen|hlen
   .rw[hev n hx,hev e hbe,hlen,he];exact h2
   .unfold isLen at hlen;rw[hH]at hlen;simp at hlen;rw[hlen];simp[E.eval]
  rw[BO]at hq;simp at hq
 .rename_i r n s;simp only[bB,dQ]at h;obtain⟨BO,hs,hlen⟩:=h;cases hH:rowAt H r with
  |none=>rw[hH]at hs;simp at hs
  |some y=>
   obtain⟨s',e,f⟩:=y;rw[hH]at hs;simp at hs;subst hs;have mQ:=NT hH;refine⟨⟨_,mQ,by simp⟩,fun s1 e1 p1 hr1 _=>?_⟩;rw[GL mQ]at hr1;simp at hr1;obtain⟨rfl,rfl,rfl⟩:=hr1;rw[Sd mQ BO];obtain⟨vs,h1,h2,h3⟩:=hr;simp only[Exact]at h3;subst h3;refine⟨by rw[h2];simp[Sh.mk,Sh.isAgg],?_⟩;unfold isLen at hlen;rw[hH]at hlen;simp at hlen;rw[hlen];simp[E.eval]
 .rename_i r off n r' off' n';simp only[bB,dQ,o9]at h;obtain⟨⟨⟨⟨s,e,f⟩,hH⟩,BO⟩,hoff,hn⟩:=h;have mQ:=NT hH;simp only[SX.bd,bB]at hx;refine⟨⟨_,mQ,by simp⟩,fun s1 e1 p1 hr1 _=>?_⟩;rw[GL mQ]at hr1;simp at hr1;obtain⟨rfl,rfl,rfl⟩:=hr1;obtain⟨_,hcase⟩:=hw.row r s e f [] mQ;rcases hcase with⟨q,e',f',hq,hS,he,_⟩|⟨hq,_,_⟩
  .rw[BO]at hq;injection hq with hq;injection hq with hq;subst hq;have h1:=hr.2 s e' [] (GL hS) (bE ρ);rw[headHv_row mQ BO];have hbe:=(hbs r _ mQ).2;simp only[LB.bd]at hbe;rw[hev off hx.1,hev n hx.2,hev e hbe,hoff,hn,he];exact h1
  rw[BO]at hq;simp at hq
 .rename_i r i fo s eG r' i' fo' s' akU;simp only[bB,dQ,o9]at h;obtain⟨⟨rfl,⟨cs,f⟩,hH⟩,hi,rfl,rfl,rfl⟩:=h;have mQ:=ag8 hH;refine⟨⟨_,mQ,by simp⟩,fun es1 e1 p1 hr1 _=>?_,fun cs1 p1 hr1 _=>?_⟩
  .obtain ⟨f1,hf1⟩:=rowIn_row hr1;rw[mQ]at hf1;simp at hf1
  obtain ⟨_,cs',f',hS,_,_⟩:=hw.box r cs f [] mQ;rw[Sg mQ];exact hr.2.2 cs' [] (Tf hS) (bE ρ)
 next f f'=>simp only[dQ]at h;subst h;exact hr
 .simp only[bB,dQ]at h;obtain⟨rfl,rfl,rfl⟩:=h;exact hr
 .simp only[bB,dQ,o9]at h;obtain⟨rfl,⟨k,s,e,f⟩,hH⟩:=h;have mQ:=agC hH;exact⟨⟨_,mQ,by simp⟩,by rw[GJ mQ (by simp)];exact hr.2⟩
 .simp only[bB,dQ,o9]at h;obtain⟨rfl,⟨s,e,f⟩,hH⟩:=h;have mQ:=agm hH;exact⟨⟨_,mQ,by simp⟩,by rw[GJ mQ (by simp)];exact hr.2⟩
 simp at h
theorem abY(hw:Weak base es π H S)(hb:base<=ρ.length)(hbd:H.bd (base+es.length)=true){N:Nat->Prop}:∀{l m:List SX}{vs:List Value},l.all (·.bd (base+es.length))=true->
  EU base es π H l m=true->gV w N ρ S.jd hv m vs->gV w N (ρ.take base++es.map (·.eval ρ)) H.jd (tH π H hv) l vs
 | [],[],_,_,_,hr=>hr
 | [],_::_,_,_,h,_=>by simp[EU]at h
 |_::_,[],_,_,h,_=>by simp[EU]at h
 |x::l,y::m,_,hl,h,⟨v,r,h1,h2,h3⟩=>by
  simp only[EU,bB]at h;simp only[List.all_cons,bB]at hl;exact⟨v,r,h1,adj hw hb hbd hl.1 h.1 h2,abY hw hb hbd hl.2 h.2 h3⟩
theorem RX(hrel : aZ P N0 w0 ρ S hv a w)(hok : Dh base es π H S = true)(hb : base <= ρ.length)(hbd : H.bd (base + es.length) = true) :
    aZ P N0 w0 (ρ.take base ++ es.map (·.eval ρ)) H (tH π H hv) a w := by
  have hw := ayt hok;have hbs := SS.UM hbd;have hev : ∀ e : E, e.bd (base + es.length) = true -> e.eval (ρ.take base ++ es.map (·.eval ρ)) = (e.subst base es).eval ρ := fun e he => E.aeM hb e he;have live : ∀ r k g, H.jd[r]? = some k -> iq k = true -> dI (tH π H hv r) = some g ->
      ∃ q k', S.jd[q]? = some k' /\ iq k' = true /\ k'.dO = [] /\ dI (hv q) = some g /\ (k.iK = false -> k'.iK = false) /\ ((∃ s e, k.lb =.row s e) -> ren π r = some (some q) /\ ∃ s e, k'.lb =.row s e) /\ ((∀ s e, k.lb ≠.row s e) -> q = r /\ ∀ s e, k'.lb ≠.row s e) := by
    intro r k g hk hl hg;obtain⟨lb, f, p⟩ := k;cases lb with
    | none => cases hl
    | dead => cases hl
    | row s e =>
      obtain⟨rfl, hcase⟩ := hw.row r s e f p hk;rcases hcase with⟨q, e', f', hq, hS, he, hf⟩ | ⟨hq, _, _⟩
      . rw [headHv_row hk hq]at hg
        exact⟨q, _, hS, rfl, rfl, hg, hf, fun _ => ⟨hq, s, e', rfl⟩, fun h => absurd rfl (h s e)⟩
      . rw [Sd hk hq]at hg; cases hg
    | box cs =>
      obtain⟨rfl, cs', f', hS, hf, _⟩ := hw.box r cs f p hk;rw [Sg hk]at hg;exact⟨r, _, hS, rfl, rfl, hg, hf, fun⟨_, _, h⟩ => (by cases h), fun _ => ⟨rfl, by simp⟩⟩
    | mp k s e =>
      obtain⟨rfl, e', f', hS, hf, _⟩ := hw.mp r k s e f p hk;rw [GJ hk (by simp)]at hg;exact⟨r, _, hS, rfl, rfl, hg, hf, fun⟨_, _, h⟩ => (by cases h), fun _ => ⟨rfl, by simp⟩⟩
    | sit s q =>
      obtain⟨rfl, s', q', f', hS, hf, _⟩ := hw.sit r s q f p hk;rw [GJ hk (by simp)]at hg;exact⟨r, _, hS, rfl, rfl, hg, hf, fun⟨_, _, h⟩ => (by cases h), fun _ => ⟨rfl, by simp⟩⟩
  have Cv : ∀ b, NN N0 w0.own ρ S.jd hv b -> NN N0 w0.own (ρ.take base ++ es.map (·.eval ρ)) H.jd (tH π H hv) b := by
    intro b hbn;refine⟨hbn.1, fun r k hk hl hf hp hg => ?_⟩;obtain⟨q, k', h1, h2, h3, h4, h5, _, _⟩ := live r k b hk hl hg;exact hbn.2 q k' h1 h2 (h5 hf) (by rw [h3]; exact bE ρ) h4
  have hk : ∀ b, NN N0 w0.own ρ S.jd hv b -> b < w.heap.size -> w.heap[b]? = w.heap[b]? /\ NN N0 w0.own (ρ.take base ++ es.map (·.eval ρ)) H.jd (tH π H hv) b := fun b h _ => ⟨rfl, Cv b h⟩;have aBp : ∀{x : SX} {v : Value}, dA w (NN N0 w0.own ρ S.jd hv) ρ S.jd hv x v -> dA w (NN N0 w0.own (ρ.take base ++ es.map (·.eval ρ)) H.jd (tH π H hv)) ρ S.jd hv x v :=
    fun h => h.le (aS _) hk (lU.refl _ _ _)
  refine⟨hrel.defers, by rw [hrel.Co, hw.len], hrel.below, fun t x ht hp => ?_, fun t x ht hp => ?_, fun r k hr hp => ?_, fun r r' k k' g hr hr' hne hl hl' hp hp' hg hg' => ?_⟩
  . obtain⟨_, h1⟩ := hw.tmps t x ht
    rcases h1 with h1 | ⟨y, hy, hyp, h1⟩
    . rw [h1]; trivial
    . exact adj hw hb hbd (SS.UL hbd ht).2 h1 (aBp (hrel.tmps t y hy (by rw [hyp]; exact bE ρ)))
  . exact absurd (by rw [(hw.tmps t x ht).1]; exact bE _) hp
  . obtain⟨lb, f, p⟩ := k
    cases lb with
    | none => trivial
    | dead => trivial
    | row s e =>
      obtain⟨rfl, hcase⟩ := hw.row r s e f p hr;have hbe := (hbs r _ hr).2;simp only [LB.bd]at hbe;rcases hcase with⟨q, e', f', hq, hS, he, _⟩ | ⟨hq, he, h0⟩
      . obtain⟨et, xs, h1, h2, h3⟩ := hrel.jd q _ hS (bE ρ)
        refine⟨et, xs, ?_, ?_, h3⟩
        . rw [headHv_row hr hq, hev e hbe, he]; exact h1
        . rw [hev e hbe, he]; exact h2.mono (aS _) hk
      . refine⟨0, [], ?_, ?_, by omega⟩
        . rw [Sd hr hq, hev e hbe, he]
          exact⟨by simp [E.eval],.inl ⟨rfl, by simp [E.eval]⟩⟩
        . rw [hev e hbe, he]; simp [E.eval, cZ]
    | box cs =>
      obtain⟨rfl, cs', f', hS, _, hx⟩ := hw.box r cs f p hr;obtain⟨g, bt, arr, h1, h2, h3, h4⟩ := hrel.jd r _ hS (bE ρ);have hbe := (hbs r _ hr).2;simp only [LB.bd]at hbe;refine⟨g, bt, arr, by rw [Sg hr]; exact h1, h2, h3, abY hw hb hbd hbe hx (h4.le (aS _) hk (lU.refl _ _ _))⟩
    | mp k s e =>
      obtain⟨rfl, e', f', hS, _, he⟩ := hw.mp r k s e f p hr;obtain⟨g, l, h1, h2, h3, h4⟩ := hrel.jd r _ hS (bE ρ);have hbe := (hbs r _ hr).2;simp only [LB.bd]at hbe;refine⟨g, l, by rw [GJ hr (by simp)]; exact h1, h2, h3, ?_⟩;rw [hev e hbe, he];exact h4.imp fun _ _ h => h.mono (aS _) hk
    | sit s q =>
      obtain⟨rfl, s', q', f', hS, _, he, he'⟩ := hw.sit r s q f p hr;obtain⟨g, n, h1, h2, h3, h4⟩ := hrel.jd r _ hS (bE ρ);have hbe := (hbs r _ hr).2;simp only [LB.bd, bB]at hbe;refine⟨g, n, by rw [GJ hr (by simp)]; exact h1, h2, ?_, ?_⟩
      . rw [hev q hbe.2, he']; exact h3
      . rw [hev s hbe.1, he]; exact h4
  . obtain⟨q, k1, a1, a2, a3, a4, _, a6, a7⟩ := live r k g hr hl hg
    obtain⟨q', k1', b1, b2, b3, b4, _, b6, b7⟩ := live r' k' g hr' hl' hg';refine hrel.dist q q' k1 k1' g a1 b1 ?_ a2 b2 (by rw [a3]; exact bE ρ) (by rw [b3]; exact bE ρ) a4 b4;intro e;subst e;rw [a1]at b1;injection b1 with b1;subst b1;by_cases h1 : ∃ s e, k.lb =.row s e
    . by_cases h2 : ∃ s e, k'.lb =.row s e
      . exact hne (hw.inj (a6 h1).1 (b6 h2).1)
      . obtain⟨_, s1, e1, e2⟩ := a6 h1
        exact(b7 (fun s e h => h2 ⟨s, e, h⟩)).2 _ _ e2
    . have a8 := a7 fun s e h => h1 ⟨s, e, h⟩
      by_cases h2 : ∃ s e, k'.lb =.row s e
      . obtain⟨_, s1, e1, e2⟩ := b6 h2
        exact a8.2 _ _ e2
      . exact hne (a8.1.symm.trans (b7 fun s e h => h2 ⟨s, e, h⟩).1)
end
section
variable{P:Program}{cfg:fF}{N0:Nat->Prop}{w0:Wb}{ρ:List C}{S M:SS}{hv:Nat->Value}{a:Act}{w:World}{Q:Exit->Act->World->Prop}
def Ir(ρ:List C)(x m:SX):Prop:=m=x\/∃s e e',x=.jo s e/\m=.jo s e'/\e'.eval ρ=e.eval ρ/\∀vs,Exact s e' vs
inductive Dl (ρ:List C):List SX->List SX->Prop
 |nil:Dl ρ [] []
 |cons {x m:SX}{l k:List SX}:Ir ρ x m->Dl ρ l k->Dl ρ (x::l) (m::k)
def FJ(ρ:List C)(k0 k:aL):Prop:=k=k0\/∃cs0 cs f,k0=⟨.box cs0,f,[]⟩/\k=⟨.box cs,f,[]⟩/\Dl ρ cs0 cs
structure Like (ρ:List C) (S M:SS):Prop where
 len:M.tmps.length=S.tmps.length
 tmps:∀(t:Nat) (m:TS),M.tmps[t]?=some m->m.dO=[]/\(m.sx=.none\/∃x,S.tmps[t]?=some x/\x.dO=[]/\Ir ρ x.sx m.sx)
 fwd:∀(r:Nat) (k:aL),S.jd[r]?=some k->∃k',M.jd[r]?=some k'/\FJ ρ k k'
 bwd:∀(r:Nat) (k:aL),M.jd[r]?=some k->∃k',S.jd[r]?=some k'/\FJ ρ k' k
theorem Ir.rd{N:Nat->Prop}{bs:List aL}{x m:SX}{v:Value}(h:Ir ρ x m)(hr:dA w N ρ bs hv x v):dA w N ρ bs hv m v:=by
 rcases h with rfl|⟨s,e,e',rfl,rfl,h1,h2⟩
 .exact hr
 obtain ⟨vs,h3,h4,_⟩:=hr;exact⟨vs,by rw[h1];exact h3,h4,h2 vs⟩
theorem Dl.rd{N:Nat->Prop}{bs:List aL}:∀{l k:List SX}{vs:List Value},Dl ρ l k->gV w N ρ bs hv l vs->gV w N ρ bs hv k vs
 | [],_,_,.nil,hr=>hr
 |_::_,_,_,.cons h1 h2,⟨v,r,e,h3,h4⟩=>⟨v,r,e,h1.rd h3,Dl.rd h2 h4⟩
theorem FJ.same{k0 k:aL}(h:FJ ρ k0 k):iq k=iq k0/\k.iK=k0.iK/\k.dO=k0.dO/\(k0.lb≠.none->k.lb≠.none):=by
 rcases h with rfl|⟨cs0,cs,f,rfl,rfl,_⟩
 .exact ⟨rfl,rfl,rfl,id⟩
 exact ⟨rfl,rfl,rfl,fun _=>by simp⟩
theorem Like.le(h:Like ρ S M):lU ρ S.jd M.jd hv hv:=by
 refine⟨fun r ⟨k,h1,h2⟩=>⟨?_,rfl⟩,fun r s e p _ hr=>?_,fun r cs p _ hr=>?_⟩
 .obtain ⟨k',h3,h4⟩:=h.fwd r k h1;exact⟨k',h3,h4.same.2.2.2 h2⟩
 .obtain ⟨f,hf⟩:=rowIn_row hr;obtain⟨k',h3,h4⟩:=h.bwd r _ hf;rcases h4 with h4|⟨_,_,_,_,h4,_⟩
  .subst h4;exact⟨e,GL h3,rfl⟩
  .simp at h4
 obtain ⟨f,hf⟩:=awS hr;obtain⟨k',h3,h4⟩:=h.bwd r _ hf;rcases h4 with h4|⟨cs0,_,f',h5,h4,_⟩
 .subst h4;exact⟨cs,Tf h3⟩
 subst h5;simp at h4;obtain⟨rfl,rfl,rfl⟩:=h4;exact⟨cs0,Tf h3⟩
theorem Like.rel(h:Like ρ S M)(hrel:aZ P N0 w0 ρ S hv a w):aZ P N0 w0 ρ M hv a w:=by
 have Cv:∀b,NN N0 w0.own ρ S.jd hv b->NN N0 w0.own ρ M.jd hv b:=by
  intro b hb;refine⟨hb.1,fun r k hk hl hf hp=>?_⟩;obtain⟨k',h1,h2⟩:=h.bwd r k hk;obtain⟨e1,e2,e3,_⟩:=h2.same;exact hb.2 r k' h1 (by rw[<-e1];exact hl) (by rw[<-e2];exact hf) (by rw[<-e3];exact hp)
 have hk:∀b,NN N0 w0.own ρ S.jd hv b->b<w.heap.size->w.heap[b]?=w.heap[b]?/\NN N0 w0.own ρ M.jd hv b:=fun b hb _=>⟨rfl,Cv b hb⟩;refine⟨hrel.defers,by rw[hrel.Co,h.len],hrel.below,fun t m ht hp=>?_,fun t m ht hp=>?_,fun r k hr hp=>?_,fun r r' k k' g hr hr' hne hl hl' hp hp'=>?_⟩
 .obtain ⟨_,h1⟩:=h.tmps t m ht;rcases h1 with h1|⟨x,hx,hxp,h1⟩
  .rw[h1];trivial
  exact h1.rd ((hrel.tmps t x hx (by rw[hxp];exact bE ρ)).le (aS _) hk h.le)
 .exact absurd (by rw[(h.tmps t m ht).1];exact bE _) hp
 .obtain ⟨k',h1,h2⟩:=h.bwd r k hr;obtain⟨e1,e2,e3,_⟩:=h2.same;have h3:=(hrel.jd r k' h1 (by rw[<-e3];exact hp)).le (aS _) hk (h.le (hv:=hv)) rfl fun _ _=>rfl;rcases h2 with h2|⟨cs0,cs,f,h4,h5,h6⟩
  .subst h2;exact h3
  .subst h4 h5;obtain⟨g,bt,arr,i1,i2,i3,i4⟩:=h3;exact⟨g,bt,arr,i1,i2,i3,h6.rd i4⟩
 obtain ⟨k1,h1,h2⟩:=h.bwd r k hr;obtain⟨k2,h3,h4⟩:=h.bwd r' k' hr';obtain⟨e1,_,e3,_⟩:=h2.same;obtain⟨e1',_,e3',_⟩:=h4.same;exact hrel.dist r r' k1 k2 g h1 h3 hne (by rw[<-e1];exact hl) (by rw[<-e1'];exact hl') (by rw[<-e3];exact hp) (by rw[<-e3'];exact hp')
theorem NY{c e e':E}{s:Sh}:(∀vs,Exact s (.ite c e e') vs):=sS (by simp) (by simp)
theorem atL{c:E}{b:Bool}(hc:(c.eval ρ).toBool=b)(x y:SX):OY c x y=.none\/Ir ρ (if b then x else y) (OY c x y):=by
 unfold OY;split
 .rename_i s e s' e';split
  .rename_i hs;subst hs;split
   next he=>subst he;right;left;cases b<;>rfl
   right;right;cases b
   .exact ⟨s,e',_,rfl,rfl,by simp[E.eval,hc],NY⟩
   exact ⟨s,e,_,rfl,rfl,by simp[E.eval,hc],NY⟩
  .exact .inl rfl
 split
 next h=>subst h;right;left;cases b<;>rfl
 exact .inl rfl
theorem acu{c:E}{b:Bool}(hc:(c.eval ρ).toBool=b):∀{l m:List TS},l.length=m.length->(Df c l m).length=l.length/\∀{t:Nat}{z:TS},(Df c l m)[t]?=some z->
  z.dO=[]/\(z.sx=.none\/∃x,(if b then l else m)[t]?=some x/\x.dO=[]/\Ir ρ x.sx z.sx)
 | [],[],_=>⟨rfl,fun h=>by simp[Df]at h⟩
 | [],_::_,h=>by simp at h
 |_::_,[],h=>by simp at h
 |x::l,y::m,h=>by
  obtain⟨h1,h2⟩:=acu hc (l:=l) (m:=m) (by simpa using h);refine⟨by simp[Df,h1],fun {t z} hz=>?_⟩;cases t with
  |zero=>
   simp only[Df,List.getElem?_cons_zero,dP]at hz;split at hz
   .rename_i hp;subst hz;refine⟨rfl,?_⟩;rcases atL hc x.sx y.sx with h3|h3
    .exact .inl h3
    .right;cases b
     .exact ⟨y,rfl,hp.2,h3⟩
     .exact ⟨x,rfl,hp.1,h3⟩
   subst hz;exact⟨rfl,.inl rfl⟩
  |succ t=>
   have:=h2 (t:=t) (z:=z) (by simpa[Df]using hz);cases b<;>simpa using this
theorem acv{c:E}{b:Bool}(hc:(c.eval ρ).toBool=b):∀{l m r:List SX},EM c l m=some r->Dl ρ (if b then l else m) r
 | [],[],r,h=>by simp[EM]at h;subst h;cases b<;>exact .nil
 | [],_::_,_,h=>by simp[EM]at h
 |_::_,[],_,h=>by simp[EM]at h
 |x::l,y::m,r,h=>by
  simp only[EM]at h;split at h
  .rename_i r' hr;have ih:=acv hc hr;split at h
   next he=>subst he;simp at h;subst h;cases b<;>exact .cons (.inl rfl) ih
   .split at h
    .rename_i s e s' e' _;split at h
     .rename_i hs;subst hs;simp at h;subst h;cases b
      .exact .cons (.inr ⟨s,e',_,rfl,rfl,by simp[E.eval,hc],NY⟩) ih
      .exact .cons (.inr ⟨s,e,_,rfl,rfl,by simp[E.eval,hc],NY⟩) ih
     simp at h
    .simp at h
  simp at h
theorem atM{c:E}{b:Bool}(hc:(c.eval ρ).toBool=b){x y k:aL}(h:U9 c x y=some k):FJ ρ (if b then x else y) k:=by
 unfold U9 at h;split at h
 next he=>subst he;simp at h;subst h;cases b<;>exact .inl rfl
 split at h
 .rename_i cs f cs' f' _;split at h
  .rename_i hf;subst hf;split at h
   .rename_i r hr;simp at h;subst h;have:=acv hc hr;cases b
    .exact .inr ⟨cs',r,f,rfl,rfl,this⟩
    .exact .inr ⟨cs,r,f,rfl,rfl,this⟩
   simp at h
  .simp at h
 simp at h
theorem acw{c:E}{b:Bool}(hc:(c.eval ρ).toBool=b):∀{l m bs:List aL},EN c l m=some bs->bs.length=(if b then l else m).length/\
  ∀(r:Nat) (k:aL),bs[r]?=some k->∃k',(if b then l else m)[r]?=some k'/\FJ ρ k' k
 | [],[],bs,h=>by simp[EN]at h;subst h;cases b<;>exact⟨rfl,fun r k hk=>by simp at hk⟩
 | [],_::_,_,h=>by simp[EN]at h
 |_::_,[],_,h=>by simp[EN]at h
 |x::l,y::m,bs,h=>by
  simp only[EN]at h;split at h
  .rename_i k' r' h1 h2;simp at h;subst h;obtain⟨i1,i2⟩:=acw hc h2;refine⟨by cases b<;>simpa using i1,fun r k hk=>?_⟩;cases r with
   |zero=>
    simp at hk;subst hk;have:=atM hc h1;cases b
    .exact ⟨y,rfl,this⟩
    exact ⟨x,rfl,this⟩
   |succ r=>
    have:=i2 r k (by simpa using hk);cases b<;>simpa using this
  simp at h
theorem RL{c:E}{b:Bool}(hc:(c.eval ρ).toBool=b){S1 S2:SS}(h:U7 c S1 S2=some M):Like ρ (if b then S1 else S2) M/\M.nv=S1.nv:=by
 unfold U7 at h;split at h
 .rename_i hl;split at h
  .rename_i bs hb;simp at h;subst h;obtain⟨t1,t2⟩:=acu hc hl.1;obtain⟨b1,b2⟩:=acw hc hb;have fwd:∀(r:Nat) (k:aL),(if b then S1 else S2).jd[r]?=some k->∃k',bs[r]?=some k'/\FJ ρ k k':=by
    intro r k hk;have hlt:r<bs.length:=by
     rw[b1];have:=(zy.1 hk).1;cases b<;>exact this
    obtain⟨k',h1,h2⟩:=b2 r bs[r] (by simp[hlt]);have:k'=k:=by
     have e:(if b then S1.jd else S2.jd)[r]?=some k:=by cases b<;>exact hk
     rw[e]at h1;injection h1 with h1;exact h1.symm
    subst this;exact⟨bs[r],by simp[hlt],h2⟩
   refine⟨⟨?_,fun t m ht=>?_,fwd,fun r k hk=>?_⟩,rfl⟩
   .cases b
    .exact t1.trans hl.1
    exact t1
   .have:=t2 ht;cases b<;>exact this
   have:=b2 r k hk;cases b<;>exact this
  .simp at h
 simp at h
theorem RZ(p:bq)(o:Ob):(o.under p).vars=o.vars:=by cases o<;>rfl
theorem R3{p:bq}(hp:bF ρ p):∀{l:List Ob}{nv:Nat},fG P ρ nv (l.map (Ob.under p))->fG P ρ nv l
 | [],_,_=>trivial
 |o::l,nv,h=>by
  obtain⟨h1,h2⟩:=h;rw[RZ]at h2;refine⟨?_,R3 hp h2⟩;cases o with
  |ak q e=>exact fun hq=>h1 (Gs.2 ⟨hp,hq⟩)
  |call q f args aK=>exact fun hq=>h1 (Gs.2 ⟨hp,hq⟩)
theorem EK:∀{c:Code}{S M:SS}{ji:List Ob},prun P cfg c S=some (M,ji)->M.nv=S.nv/\iA ji=0
 | .skip,S,M,ji,h=>by simp[prun]at h;obtain⟨rfl,rfl⟩:=h;exact⟨rfl,rfl⟩
 | .region _ ops draw,S,M,ji,h=>by
  simp only[prun]at h;split at h
  .simp at h
  split at h
  .rename_i S' ob hr;split at h
   next hn=>simp at h;obtain⟨rfl,rfl⟩:=h;have:=Sw hr;exact⟨hn,by omega⟩
   .simp at h
  simp at h
 | .seq x y,S,M,ji,h=>by
  simp only[prun]at h;split at h
  .rename_i h1;split at h
   next h2=>simp at h;obtain⟨rfl,rfl⟩:=h;obtain⟨e1,e2⟩:=EK h1;obtain⟨e3,e4⟩:=EK h2;simp only[iA,gW,List.sum_append]at*;exact⟨by omega,by omega⟩
   .simp at h
  simp at h
 | .cond c x y,S,M,ji,h=>by
  simp only[prun]at h;split at h
  .rename_i e he;split at h
   .rename_i h1 h2;split at h
    .rename_i M' hm;simp at h;obtain⟨rfl,rfl⟩:=h;obtain⟨e1,e2⟩:=EK h1;obtain⟨e3,e4⟩:=EK h2;have hu:∀(p:bq) (l:List Ob),((l.map (Ob.under p)).map Ob.vars).sum=(l.map Ob.vars).sum:=by
      intro p l;rw[vW];congr 1
      exact Ca fun o _=>RZ p o
     have xH:M'.nv=_:=(RL (ρ:=[]) (c:=e) rfl hm).2;simp only[iA,gW,List.sum_append,hu]at*;exact⟨by omega,by omega⟩
    simp at h
   .simp at h
  simp at h
 | .block ..,_,_,_,h| .exit _,_,_,_,h| .ret,_,_,_,h| .loop _,_,_,_,h| .scope ..,_,_,_,h| .label _,_,_,_,h| .goto _,_,_,_,h=>by simp[prun]at h
theorem JO:∀{c:Code}{S M:SS}{ji:List Ob}{hv:Nat->Value}{a:Act}{w:World}{Q:Exit->Act->World->Prop},aZ P N0 w0 ρ S hv a w->prun P cfg c S=some (M,ji)->fG P ρ S.nv ji->
  (∀a' w',(∃hv',aZ P N0 w0 ρ M hv' a' w')->Q .normal a' w')->c.wp P Q a w
 | .skip,S,M,ji,hv,a,w,Q,hrel,h,_,hq=>by simp[prun]at h;obtain⟨rfl,rfl⟩:=h;exact wp_skip (hq _ _ ⟨hv,hrel⟩)
 | .region _ ops draw,S,M,ji,hv,a,w,Q,hrel,h,ho,hq=>by
  simp only[prun]at h;split at h
  .simp at h
  .rename_i hd;split at h
   .rename_i S' ob hr;split at h
    .simp at h;obtain⟨rfl,rfl⟩:=h;exact aci hrel (by simpa using hd) hr ho hq
    .simp at h
   simp at h
 | .seq x y,S,M,ji,hv,a,w,Q,hrel,h,ho,hq=>by
  simp only[prun]at h;split at h
  .rename_i S1 o1 h1;split at h
   next S2 o2 h2=>simp at h;obtain⟨rfl,rfl⟩:=h;obtain⟨e1,e2⟩:=EK h1;rw[xO]at ho;refine wp_seq (JO hrel h1 ho.1 fun a' w' ⟨hv',hr'⟩=>?_);refine JO hr' h2 ?_ hq;have:=ho.2;simp only[iA]at e2;rw[e2,qE]at this;rw[e1];exact this
   .simp at h
  simp at h
 | .cond c x y,S,M,ji,hv,a,w,Q,hrel,h,ho,hq=>by
  simp only[prun]at h;split at h
  .rename_i e he;split at h
   .rename_i S1 o1 S2 o2 h1 h2;split at h
    .rename_i M' hm;simp at h;obtain⟨rfl,rfl⟩:=h;have hc:=dD hrel (bE ρ) he;rw[nD]at hc;rw[xO]at ho;obtain⟨e1,e2⟩:=EK h1;have hu:((o1.map (Ob.under [(e,true)])).map Ob.vars).sum=0:=by
      rw[vW];simp only[iA]at e2;rw[<-e2];congr 1
      exact Ca fun o _=>RZ _ o
     refine wp_cond_split hc (fun ht=>?_) (fun hf=>?_)
     .refine JO hrel h1 (R3 (Gr.2 ht) ho.1) fun a' w' ⟨hv',hr'⟩=>hq a' w' ⟨hv',?_⟩;exact(RL ht hm).1.rel hr'
     .have h3:=ho.2;rw[hu,qE]at h3;refine JO hrel h2 (R3 (Gr.2 hf) h3) fun a' w' ⟨hv',hr'⟩=>hq a' w' ⟨hv',?_⟩;exact(RL hf hm).1.rel hr'
    simp at h
   .simp at h
  simp at h
 | .block ..,_,_,_,_,_,_,_,_,h,_,_| .exit _,_,_,_,_,_,_,_,_,h,_,_| .ret,_,_,_,_,_,_,_,_,h,_,_| .loop _,_,_,_,_,_,_,_,_,h,_,_
 | .scope ..,_,_,_,_,_,_,_,_,h,_,_| .label _,_,_,_,_,_,_,_,_,h,_,_| .goto _,_,_,_,_,_,_,_,_,h,_,_=>by simp[prun]at h
end
section
variable{P:Program}{cfg:fF}{hints:List Hint}{N0:Nat->Prop}{w0:Wb}{Post:List (Sh×C)->Prop}
def XE.UY:XE->Exit
 | .normal=> .normal
 | .exit id=> .exit id
 | .ret=> .ret
def Goes(P:Program)(N0:Nat->Prop)(w0:Wb)(Post:List (Sh×C)->Prop)(K:XE->SS->Nat->VC)(Q:Exit->Act->World->Prop)(ρ:List C)(Bs:List (List C->Prop)):Prop:=
 ∀e S' l' ρ' jH hv' a' w',ρ<+:ρ'->Bs<+:jH->jH.length=l'->ρ'.length=S'.nv->aZ P N0 w0 ρ' S' hv' a' w'->(K e S' l').holds P Post jH ρ'->Q e.UY a' w'
theorem Goes.mono{K:XE->SS->Nat->VC}{Q:Exit->Act->World->Prop}{ρ ρ':List C}{Bs jH:List (List C->Prop)}(h:Goes P N0 w0 Post K Q ρ Bs)(h1:ρ<+:ρ')(h2:Bs<+:jH):Goes P N0 w0 Post K Q ρ' jH:=
 fun e S' l' ρ2 Bs2 hv' a' w' g1 g2=>h e S' l' ρ2 Bs2 hv' a' w' (h1.trans g1) (h2.trans g2)
theorem adA{α:Type}{l m:List α}(h:l<+:m):m.take l.length=l:=by
 obtain⟨t,rfl⟩:=h;simp
theorem adB{Bs jH:List (List C->Prop)}{x d:List C->Prop}(h:Bs++ [x]<+:jH):jH.getD Bs.length d=x:=by
 obtain⟨t,rfl⟩:=h;simp[List.getD]
theorem NR:∀(c:Code) {S:SS}{l:Nat}{K:XE->SS->Nat->VC}{ρ:List C}{Bs:List (List C->Prop)} {hv:Nat->Value}{a:Act}{w:World}{Q:Exit->Act->World->Prop},
  aZ P N0 w0 ρ S hv a w->ρ.length=S.nv->Bs.length=l->(sx P cfg hints c S l K).holds P Post Bs ρ->Goes P N0 w0 Post K Q ρ Bs->c.wp P Q a w:=by
 intro c;induction c with
 |skip=>
  intro S l K ρ Bs hv a w Q hrel hn hl h hq;exact wp_skip (hq .normal S l ρ Bs hv a w (Cg _) (Cg _) hl hn hrel h)
 |region id ops draw=>
  intro S l K ρ Bs hv a w Q hrel hn hl h hq;simp only[sx]at h;split at h
  .exact h.elim
  .rename_i hd;split at h
   .rename_i S' ji hr;split at h
    next hb=>simp only[bB]at hb;rw[<-hn]at hb;obtain⟨σ,o1,o2,o3⟩:=MW hb.2 h;have hrel':=hrel.env (tQ.app ρ σ) hb.1;have xH:=Sw hr;refine aqD hrel' (by simpa using hd) hr (by rw[<-hn];exact o1) fun a' w' ⟨hv',hr'⟩=>?_;exact hq .normal S' l (ρ++σ) Bs hv' a' w' (List.prefix_append _ _) (Cg _) hl (by rw[cO,o3,xH,hn]) hr' o2
    .exact h.elim
   exact h.elim
 |seq x y Jp ihy=>
  intro S l K ρ Bs hv a w Q hrel hn hl h hq;simp only[sx]at h;refine wp_seq (Jp hrel hn hl h fun e S' l' ρ' jH hv' a' w' g1 g2 g3 g4 g5 g6=>?_);cases e with
  |normal=>exact ihy g5 g4 g3 g6 (hq.mono g1 g2)
  |exit id=>exact hq (.exit id) S' l' ρ' jH hv' a' w' g1 g2 g3 g4 g5 g6
  |ret=>exact hq .ret S' l' ρ' jH hv' a' w' g1 g2 g3 g4 g5 g6
 |cond c x y Jp ihy=>
  intro S l K ρ Bs hv a w Q hrel hn hl h hq;simp only[sx]at h;split at h
  .rename_i e he;have hc:=dD hrel (bE ρ) he;rw[nD]at hc;split at h
   .exact wp_cond_true (by simpa[E.eval]using hc) (Jp hrel hn hl h hq)
   .exact wp_cond_false (by simpa[E.eval]using hc) (ihy hrel hn hl h hq)
   split at h
   .rename_i M ji hp;split at h
    next hb=>simp only[bB]at hb;rw[<-hn]at hb;obtain⟨σ,o1,o2,o3⟩:=MW hb.2 h;have hrel':=hrel.env (tQ.app ρ σ) hb.1;obtain⟨e1,e2⟩:=EK hp;refine JO hrel' hp (by rw[<-hn];exact o1) fun a' w' ⟨hv',hr'⟩=>?_;exact hq .normal M l (ρ++σ) Bs hv' a' w' (List.prefix_append _ _) (Cg _) hl (by rw[cO,o3,e2,e1,hn,qE]) hr' o2
    .exact h.elim
   split at h
   .generalize OX _ (writes (.cond c x y)) S=m at h;obtain⟨H,es,π⟩:=m;simp only at h;split at h
    .rename_i hok;simp only[bB,dQ]at hok;obtain⟨xH,Jt⟩:=hok;obtain⟨I,hbody,hrest⟩:=h;rw[xH]at Jt;have land:∀(n:Nat) (e:XE) (S':SS) (l':Nat) (ρ':List C) (jH:List (List C->Prop)) (hv':Nat->Value) (a':Act) (w':World),ρ<+:ρ'->Bs++ [I]<+:jH->jH.length=l'->ρ'.length=S'.nv->aZ P N0 w0 ρ' S' hv' a' w'->
       ((match e with
        | .normal=>match guess S.nv es.length H S' with
         |(es',π')=>if Dh S.nv es' π' H S'&&es'.length=es.length then .jm l es' else .fail n
        |e=>K e S' l':VC)).holds P Post jH ρ'->Q e.UY a' w':=by
      intro n e S' l' ρ' jH hv' a' w' p1 g2 g3 g4 g5 g6;have p2:Bs<+:jH:=(List.prefix_append Bs _).trans g2;cases e with
      |normal=>
       simp only at g6;generalize guess S.nv es.length H S'=gs at g6;obtain⟨es',π'⟩:=gs;simp only at g6;split at g6
       .rename_i hok';simp only[bB,dQ]at hok';simp only[VC.holds]at g6;rw[<-hl,adB g2]at g6;have hlen:S.nv<=ρ'.length:=by rw[<-hn];exact p1.length_le
        have h2:=RX g5 hok'.1 hlen (by rw[hok'.2];exact Jt);rw[<-hn,adA p1]at h2;have hvs:(es'.map (·.eval ρ')).length=es.length:=by simp[hok'.2]
        exact hq .normal H l (ρ++es'.map (·.eval ρ')) Bs _ a' w' (List.prefix_append _ _) (Cg _) hl (by rw[cO,hvs,xH,hn]) h2 (hrest _ hvs g6)
       exact g6.elim
      |exit id=>exact hq (.exit id) S' l' ρ' jH hv' a' w' p1 p2 g3 g4 g5 g6
      |ret=>exact hq .ret S' l' ρ' jH hv' a' w' p1 p2 g3 g4 g5 g6
     have hl1:(Bs++ [I]).length=l+1:=by rw[cO,hl];rfl
     exact wp_cond_split hc (fun ht=>Jp hrel hn hl1 (hbody.1 ht) (land _)) (fun hf=>ihy hrel hn hl1 (hbody.2 hf) (land _))
    .exact h.elim
   exact wp_cond_split hc (fun ht=>Jp hrel hn hl (h.1 ht) hq) (fun hf=>ihy hrel hn hl (h.2 hf) hq)
  next e he=>obtain⟨b,hb,hz⟩:=dD hrel (bE ρ) he;exact wp_cond_split hb (fun ht=>Jp hrel hn hl (h.1 (hz ht)) hq) (fun hf=>ihy hrel hn hl h.2 hq)
  exact h.elim
 |block id c ih=>
  intro S l K ρ Bs hv a w Q hrel hn hl h hq;simp only[sx]at h;refine wp_block (ih hrel hn hl h fun e S' l' ρ' jH hv' a' w' g1 g2 g3 g4 g5 g6=>?_);cases e with
  |normal=>exact hq .normal S' l' ρ' jH hv' a' w' g1 g2 g3 g4 g5 g6
  |exit id'=>
   simp only[XE.UY,Exit.inBlock];simp only at g6;split at g6
   next hid=>rw[aC hid];exact hq .normal S' l' ρ' jH hv' a' w' g1 g2 g3 g4 g5 g6
   next hid=>rw[zq hid];exact hq (.exit id') S' l' ρ' jH hv' a' w' g1 g2 g3 g4 g5 g6
  |ret=>exact hq .ret S' l' ρ' jH hv' a' w' g1 g2 g3 g4 g5 g6
 |exit id=>
  intro S l K ρ Bs hv a w Q hrel hn hl h hq;exact wp_exit (hq (.exit id) S l ρ Bs hv a w (Cg _) (Cg _) hl hn hrel h)
 |ret=>
  intro S l K ρ Bs hv a w Q hrel hn hl h hq;exact wp_ret (hq .ret S l ρ Bs hv a w (Cg _) (Cg _) hl hn hrel h)
 |loop c ih=>
  intro S l K ρ Bs hv a w Q hrel hn hl h hq;simp only[sx]at h;generalize OX _ (writes c) S=m at h;obtain⟨H,es,π⟩:=m;simp only at h;split at h
  .rename_i hok;simp only[bB,dQ]at hok;obtain⟨hw,xH,Jt,hbS⟩:=hok;obtain⟨I,μ,h0,hstep⟩:=h;rw[xH]at Jt;have h1:=RX hrel hw (by omega) Jt;have ht:ρ.take S.nv=ρ:=by rw[<-hn];simp
   rw[ht]at h1;refine wp_loop_ghost (fun n a w=>∃vs hv,vs.length=es.length/\I vs/\μ vs=n/\aZ P N0 w0 (ρ++vs) H hv a w) _ ⟨_,_,by simp,h0,rfl,h1⟩ ?_;rintro n a1 w1 ⟨vs,hv1,hvs,hI,rfl,hr1⟩;refine ih hr1 (by rw[cO,hvs,xH,hn]) (by rw[cO,hl];rfl) (hstep vs hvs hI) fun e S' l' ρ' jH hv' a' w' g1 g2 g3 g4 g5 g6=>?_;have p1:ρ<+:ρ':=(List.prefix_append ρ vs).trans g1;have p2:Bs<+:jH:=(List.prefix_append Bs _).trans g2;cases e with
   |normal=>
    simp only at g6;generalize guess S.nv es.length H S'=gs at g6;obtain⟨es',π'⟩:=gs;simp only at g6;split at g6
    .rename_i hok';simp only[bB,dQ]at hok';simp only[VC.holds]at g6;rw[<-hl,adB g2]at g6;have hlen:S.nv<=ρ'.length:=by rw[<-hn];exact p1.length_le
     have h2:=RX g5 hok'.1 hlen (by rw[hok'.2];exact Jt);rw[<-hn,adA p1]at h2;exact⟨_,g6.2,_,_,by simp[hok'.2],g6.1,rfl,h2⟩
    exact g6.elim
   |exit id=>exact hq (.exit id) S' l' ρ' jH hv' a' w' p1 p2 g3 g4 g5 g6
   |ret=>exact hq .ret S' l' ρ' jH hv' a' w' p1 p2 g3 g4 g5 g6
  exact h.elim
 |_=>intro S l K ρ Bs hv a w Q hrel hn hl h hq;exact h.elim
end
end Go.Vc
namespace Go.Vc
open Go.RowKit
section
variable{P:Program}{cfg:fF}{hints:List Hint}{N0:Nat->Prop}{w0:Wb}{ρ:List C}{S:SS}{hv:Nat->Value}{a:Act}{w:World}
def I4(N0:Nat->Prop)(w0:Wb)(b:Nat):Prop:=N0 b\/w0.own b
theorem ahG{t:TypeId}{v u:Value}(h:(Instr.loadAt t v).run P w=.ok u w):(do loadVar t (<-asAddr v):Sem Value).run P w=.ok u w:=by
 cases v with
 |pointer p=>
  cases p with
  |some b=>simpa[Instr.loadAt,Instr.sureAddr,asAddr]using h
  |none=>simp[Instr.loadAt,Instr.sureAddr,stuck]at h
 |_=>simp[Instr.loadAt,Instr.sureAddr,stuck]at h
theorem U6(hrel:aZ P N0 w0 ρ S hv a w){f:List Nat}(hf:∀r∈f,nH S.jd ρ r){N:Nat->Prop}(hN:∀b,N b->I4 N0 w0 b){b:Nat}(h:NF N hv f b):I4 N0 w0 b:=by
 rcases h with h|⟨r,hr,hg⟩
 .exact hN b h
 obtain ⟨k,h3,hl,h2⟩:=hf r hr;exact .inr (hrel.lt h3 hl h2 hg).2
theorem aZ.ayT(hrel:aZ P N0 w0 ρ S hv a w):rW w w0.own (I4 N0 w0) ρ S.jd hv:=by
 refine⟨fun r s e p hr hp=>?_,fun r k s e p hr hp=>?_⟩
 .obtain ⟨et,xs,h1,h2,h3⟩:=hrel.rows.row r s e p hr hp;exact⟨et,xs,h1,h2.mono (aS _) fun b hb _=>⟨rfl,hb.1⟩,h3⟩
 obtain ⟨g,l,h1,h2,h3,h4⟩:=hrel.rows.map r k s e p hr hp;exact⟨g,l,h1,h2,h3,h4.imp fun _ _ h=>h.mono (aS _) fun b hb _=>⟨rfl,hb.1⟩⟩
theorem aii(hrel:aZ P N0 w0 ρ S hv a w){x:SX}{s:Sh}{e:E}{f:List Nat}{v:Value}(h:lg S.rb [] x=some (s,e,f))(hx:dA w (I4 N0 w0) ρ S.jd hv x v):
  bV w (I4 N0 w0) s v (e.eval ρ):=by
 have h1:=Hr (AU hrel.ayT (bE ρ) h hx);exact h1.mono (aS _) fun b hb _=>⟨rfl,U6 hrel (EA (bE ρ) h) (fun _ h=>h) hb⟩
def uI(tmps:Array Value):ResultVar->Sem Value
 | .tmp t=>pure (tmps.getD t undef)
 | .cell b t=>do loadVar t (<-asAddr (tmps.getD b undef))
theorem R5(hrel:aZ P N0 w0 ρ S hv a w):∀{l:List ResultVar}{rs:List (Sh×E)},DK P S l=some rs->
  ∃vs,(l.mapM (uI a.tmps)).run P w=.ok vs w/\fI w (I4 N0 w0) (gB ρ rs) vs
 | [],rs,h=>by
  simp[DK]at h;subst h;exact⟨[],by simp,rfl⟩
 | .tmp t::l,rs,h=>by
  simp only[DK]at h;split at h
  next s e f r h1 h2=>simp at h;subst h;obtain⟨vs,i1,i2⟩:=R5 hrel h2;obtain⟨x,hx,hd⟩:=vV.1 h1;have h3:=dD hrel (bE ρ) hx;have h4:=aii hrel hd (h3.le (aS _) (fun b hb _=>⟨rfl,hb.1⟩) (lU.refl _ _ _));refine⟨a.tmps.getD t undef::vs,by simp only[D7,uI];simp[i1],_,_,rfl,?_,i2⟩;simpa[Act.eval]using h4
  simp at h
 | .cell t ty::l,rs,h=>by
  simp only[DK]at h;split at h
  .rename_i s e f r h1 h2;simp at h;subst h;obtain⟨vs,i1,i2⟩:=R5 hrel h2;obtain⟨o,ho,hd⟩:=vV.1 h1;obtain⟨f1,e1,e2,_,_,u,e3,e4⟩:=RN hrel.rows hrel.boxes (bE ρ) ho (v:=a.eval (.tmp t)) fun y hy=>dD hrel (bE ρ) hy;have h4:=aii hrel hd (e4.le (aS _) (fun b hb _=>⟨rfl,U6 hrel e2 (fun _ h=>h.1) hb⟩) (lU.refl _ _ _));have h5:=ahG e3;refine⟨u::vs,?_,_,_,rfl,h4,i2⟩;have h6:a.eval (.tmp t)=a.tmps.getD t undef:=by simp[Act.eval]
   rw[h6]at h5;have h7:(uI a.tmps (.cell t ty)).run P w=.ok u w:=h5;rw[D7];simp[h7,i1]
  simp at h
theorem JN{fn:Func}{tmps:Array Value}{vs:List Value}(h:(fn.results.toList.mapM (uI tmps)).run P w=.ok vs w):
  (results fn tmps).run P w=.ok (if h:vs.length=1 then vs[0]else .tuple vs.toArray) w:=by
 have e:results fn tmps=(do let vs <-fn.results.mapM (uI tmps);pure (if h:vs.size=1 then vs[0]else .tuple vs):Sem Value):=by
  unfold results;congr 1
 rw[e,Array.mapM_eq_mapM_toList];simp[h]
theorem R4:∀(l:List Sh) (k i:Nat) (s:Sh) (e:E),(jZ k l)[i]?=some (s,e)->l[i]?=some s/\e=.vq (k+i)
 | [],_,_,_,_,h=>by simp[jZ]at h
 |x::l,k,0,s,e,h=>by simp[jZ]at h;obtain⟨rfl,rfl⟩:=h;simp
 |x::l,k,i+1,s,e,h=>by
  simp only[jZ,List.getElem?_cons_succ]at h;obtain⟨h1,h2⟩:=R4 l (k+1) i s e h;exact⟨by simpa using h1,by rw[h2];congr 1;omega⟩
theorem QS:∀(l:List Sh) (k:Nat),(jZ k l).length=l.length
 | [],_=>rfl
 |_::l,k=>by simp[jZ,QS l]
theorem T9{N:Nat->Prop}:∀{l:List (Sh×C)} {vs:List Value}{i:Nat}{s:Sh}{c:C},fI w N l vs->l[i]?=some (s,c)->∃v,vs[i]?=some v/\bV w N s v c
 | [],_,_,_,_,_,h=>by simp at h
 |(s,c)::l,_,0,_,_,⟨v,r,h1,h2,h3⟩,h=>by simp at h;obtain⟨rfl,rfl⟩:=h;exact⟨v,by simp[h1],h2⟩
 |(s,c)::l,_,i+1,_,_,⟨v,r,h1,h2,h3⟩,h=>by
  obtain⟨u,h4,h5⟩:=T9 h3 (by simpa using h);exact⟨u,by simp[h1,h4],h5⟩
theorem RH{args:List (Sh×C)}{vs:List Value}(aX:KW P w)(h:fI w N0 args vs)(n:Nat):
  aZ P N0 ⟨w,fun _=>False⟩ (args.map (·.2)) (vI (args.map (·.1)) n) (fun _=>undef) {tmps:=vs.toArray++Array.replicate (n-vs.toArray.size) undef,defers:=[]} w:=by
 have hlen:=M9 h;have hnone:∀(r:Nat) (k:aL),(vI (args.map (·.1)) n).jd[r]?=some k->k.lb=.none:=by
  intro r k hk;simp only[vI,List.getElem?_replicate]at hk;split at hk
  .injection hk with hk;subst hk;rfl
  .cases hk
 have hlive:∀(r:Nat) (k:aL),(vI (args.map (·.1)) n).jd[r]?=some k->iq k=true->False:=by
  intro r k hk hl;unfold iq at hl;rw[hnone r k hk]at hl;cases hl
 have Mr:∀(t:Nat) (ts:TS),(vI (args.map (·.1)) n).tmps[t]?=some ts->ts.dO=[]/\(ts.sx=.none\/∃s c,args[t]?=some (s,c)/\ts.sx=.jo s (.vq t)):=by
  intro t ts ht;simp only[vI]at ht;rw[List.getElem?_append]at ht;split at ht
  .rw[ow]at ht;cases hr:(jZ 0 (args.map (·.1)))[t]? with
   |none=>simp[hr]at ht
   |some x=>
    obtain⟨s,e⟩:=x;simp[hr]at ht;subst ht;obtain⟨h1,h2⟩:=R4 _ 0 t s e hr;rw[ow]at h1;cases ha:args[t]? with
    |none=>simp[ha]at h1
    |some y=>
     obtain⟨s',c⟩:=y;simp[ha]at h1;subst h1;rw[kD]at h2;subst h2;exact⟨rfl,.inr ⟨s',c,rfl,rfl⟩⟩
  .rw[List.getElem?_replicate]at ht;split at ht
   .injection ht with ht;subst ht;exact⟨rfl,.inl rfl⟩
   .cases ht
 refine⟨rfl,?_,⟨rfl,rfl,rfl,aS _,fun _ _ _=>rfl,aX,fun _ _ h=>h⟩,fun t ts ht hp=>?_,fun t ts ht hp=>?_,fun r k hr hp=>?_,fun r r' k k' g hr hr' hne hl=>?_⟩
 .simp[vI,QS,hlen]
 .rcases (Mr t ts ht).2 with h1|⟨s,c,h1,h2⟩
  .rw[h1];trivial
  rw[h2];obtain⟨v,h3,h4⟩:=T9 h h1;have hlt:t<vs.length:=(zy.1 h3).1;have hv:(vs.toArray++Array.replicate (n-vs.toArray.size) undef).getD t undef=v:=by
   have:(vs.toArray++Array.replicate (n-vs.toArray.size) undef)[t]?=some v:=by
    rw[Array.getElem?_append_left (by simpa using hlt)];simpa using h3
   rw[Array.getD_eq_getD_getElem?,this];rfl
  simp only[hv];refine zP ?_ (sS (by simp) (by simp));have he:(E.vq t).eval (args.map (·.2))=c:=by simp[E.eval,List.getD,h1]
  rw[he];exact h4.mono (aS _) fun b hb _=>⟨rfl,.inl hb,fun r k hr hl=>(hlive r k hr hl).elim⟩
 .exact absurd (by rw[(Mr t ts ht).1];exact bE _) hp
 .rw[hnone r k hr];trivial
 exact (hlive r k hr hl).elim
theorem PC.Fz{f:FuncId}{fn:Func}(hlt:f<1000000)(hf:P.funcs[f]?=some fn)(hname:(fn.name== "runtime.NumGoroutine")=false){dZ:List Sh}{vc:VC}(iy:Wo P cfg hints fn dZ=vc)
  {args aK:List (Sh×C)} (hs:args.map (·.1)=dZ) (h:vc.holds P (fun r=>r=aK) [] (args.map (·.2))):PC P f args aK:=by
 apply PC.qX hlt;subst iy hs;unfold Wo at h;cases hb:fn.body with
 |none=>simp only[hb]at h;exact h.elim
 |some c=>
  simp only[hb]at h;refine⟨⟨fn,hf,by simp[hb],hname⟩,fun w N vs aX hrd=>calls_of_wp hf hb ?_⟩;have hst:=RH aX hrd fn.ntmps;refine NR c hst (by simp[vI]) rfl h fun e S' l' ρ' jH hv' a' w' g1 g2 g3 g4 g5 g6=>?_;have key:(∃rs,DK P S' fn.results.toList=some rs/\gB ρ' rs=aK)->
    a'.defers=[]/\∃v,(results fn a'.tmps).run P w'=.ok v w'/\∃v',Ending.returned v=.returned v'/\PN w' (fun b=>N b\/w.heap.size<=b) aK v'/\Below w.heap.size w w':=by
   rintro⟨rs,h1,h2⟩;obtain⟨us,i1,i2⟩:=R5 g5 h1;rw[h2]at i2;refine⟨g5.defers,_,JN i1,_,rfl,⟨us,i2.mono (aS _) fun b hb _=>⟨rfl,?_⟩,rfl⟩,g5.below.os,g5.below.tape,g5.below.output,g5.below.size,fun k hk=>g5.below.block k hk (fun h=>h)⟩;rcases hb with hb|hb|hb
   .exact .inl hb
   .exact .inr hb
   .exact hb.elim
  cases e with
  |exit id=>exact g6.elim
  |normal=>
   refine key ?_;simp only at g6;split at g6
   next rs h1=>exact⟨rs,h1,g6⟩
   exact g6.elim
  |ret=>
   refine key ?_;simp only at g6;split at g6
   next rs h1=>exact⟨rs,h1,g6⟩
   exact g6.elim
theorem Tq{N:Nat->Prop}:∀{s:Sh}{us:List Value}{c:C},s.iQ=true->Rd w N s us c->DY s us
 | .int _,_,_,_,_| .bool,_,_,_,_| .str,_,_,_,_| .je,_,_,_,_=>trivial
 | .sl _,_,_,hp,_| .dB _ _,_,_,hp,_| .mp _ _,_,_,hp,_=>by cases hp
 | .kP,_,_,_,_| .fH _,_,_,_,_=>trivial
 | .jc a b,_,_,hp,⟨_,va,vb,h1,h2,h3⟩=>by
  simp only[Sh.iQ,bB]at hp;exact⟨va,vb,h1,h2.length,Tq hp.1 h2,Tq hp.2 h3⟩
theorem M4{N:Nat->Prop}:∀{s:Sh}{e:E}{us:List Value},wO s e=true->Rd w N s us (e.eval ρ)->Exact s e us->DY s us
 | .int _,_,_,_,_,_| .bool,_,_,_,_,_| .str,_,_,_,_,_| .je,_,_,_,_,_| .kP,_,_,_,_,_| .fH _,_,_,_,_,_=>trivial
 | .dB _ _,e,_,h,_,_=>by cases e<;>simp[wO]at h
 | .mp _ _,e,_,h,_,_=>by cases e<;>simp[wO]at h
 | .sl s,e,us,h,_,hx=>by
  cases e<;>simp[wO]at h;exact hx
 | .jc a b,e,us,h,hr,hx=>by
  cases e with
  |cons x y=>
   simp only[wO,bB]at h;obtain⟨h0,va,vb,h1,h2,h3⟩:=hr;obtain⟨na,nb,n1,n2,n3,n4⟩:=hx;obtain⟨rfl,rfl⟩:va=na/\vb=nb:=List.append_inj (h1.symm.trans n1) (by rw[h2.length,n2]);exact⟨va,vb,h1,n2,M4 h.1 (by simpa[E.eval]using h2) n3,M4 h.2 (Rd.zG h0 (by simp[E.eval]) h3) n4⟩
  |_=>exact Tq (by simpa[wO,Sh.iQ]using h) hr
theorem NC.Fz{f:FuncId}{fn:Func}(hf:P.funcs[f]?=some fn)(hname:(fn.name== "runtime.NumGoroutine")=false){dZ:List Sh}{vc:VC}(iy:VP P cfg hints fn dZ=vc)
  {s:Sh}{c1:C}{args:List (Sh×C)} (hs:args.map (·.1)=dZ) (h:vc.holds P (fun r=>r=[(s,c1)]) [] (args.map (·.2))):NC P f args [(s,c1)]:=by
 subst iy hs;unfold VP at h;cases hb:fn.body with
 |none=>simp only[hb]at h;exact h.elim
 |some c=>
  simp only[hb]at h;refine⟨s,c1,rfl,⟨fn,hf,by simp[hb],hname⟩,fun w N vs aX hrd=>calls_of_wp hf hb ?_⟩;have hst:=RH aX hrd fn.ntmps;refine NR c hst (by simp[vI]) rfl h fun e S' l' ρ' jH hv' a' w' g1 g2 g3 g4 g5 g6=>?_;have key:((match fn.results.toList with
   | [.tmp t]=>match S'.ev P [] (.tmp t) 0 with
    |some (.jo s e)=>if wO s e then VC.ret [(s,e)]else .fail 8000004
    |_=> .fail 8000002
   | [.cell t ty]=>match BF P S'.rb [] ty (S'.ev P [] (.tmp t) 0)with
    |some ⟨.jo s e,_,_,_⟩=>if wO s e then VC.ret [(s,e)]else .fail 8000004
    |_=> .fail 8000002
   |_=> .fail 8000002):VC).holds P (fun r=>r=[(s,c1)]) jH ρ'->
    a'.defers=[]/\∃v,(results fn a'.tmps).run P w'=.ok v w'/\∃us,Ending.returned v=.returned (s.mk us)/\Rd w' (fun b=>N b\/w.heap.size<=b) s us c1/\DY s us/\Below w.heap.size w w':=by
   intro g6;split at g6
   .rename_i t hres;split at g6
    .rename_i s' e' hx;split at g6
     .rename_i hok;simp only[VC.holds,gB,jG,pU,kE,iG,lC]at g6;obtain⟨rfl,rfl⟩:=g6;obtain⟨us,i1,i2,i3⟩:=dD g5 (bE ρ') hx;have hrun:(fn.results.toList.mapM (uI a'.tmps)).run P w'=.ok [s'.mk us] w':=by
       rw[hres];have:a'.tmps.getD t undef=s'.mk us:=by rw[<-i2];simp[Act.eval]
       simp only[D7,List.mapM_nil,uI,this];simp
      have hr:=JN hrun;simp only[yJ,dif_pos]at hr;refine⟨g5.defers,_,hr,us,rfl,i1.mono (aS _) fun b hb _=>⟨rfl,?_⟩,M4 hok i1 i3,g5.below.os,g5.below.tape,g5.below.output,g5.below.size,fun k hk=>g5.below.block k hk (fun h=>h)⟩;rcases hb.1 with hb|hb|hb
      .exact .inl hb
      .exact .inr hb
      exact hb.elim
     .exact g6.elim
    exact g6.elim
   .rename_i t ty hres;split at g6
    .rename_i s' e' cm qY ob' hx;split at g6
     .rename_i hok;simp only[VC.holds,gB,jG,pU,kE,iG,lC]at g6;obtain⟨rfl,rfl⟩:=g6;obtain⟨f1,e1,e2,_,_,u,e3,e4⟩:=RN g5.rows g5.boxes (bE ρ') hx (v:=a'.eval (.tmp t)) fun y hy=>dD g5 (bE ρ') hy;obtain⟨us,i1,i2,i3⟩:=e4;have h5:=ahG e3;have h6:a'.eval (.tmp t)=a'.tmps.getD t undef:=by simp[Act.eval]
      rw[h6]at h5;have h7:(uI a'.tmps (.cell t ty)).run P w'=.ok u w':=h5;have hrun:(fn.results.toList.mapM (uI a'.tmps)).run P w'=.ok [s'.mk us] w':=by
       rw[hres];rw[D7];simp[h7,i2]
      have hr:=JN hrun;simp only[yJ,dif_pos]at hr;refine⟨g5.defers,_,hr,us,rfl,i1.mono (aS _) fun b hb _=>⟨rfl,?_⟩,M4 hok i1 i3,g5.below.os,g5.below.tape,g5.below.output,g5.below.size,fun k hk=>g5.below.block k hk (fun h=>h)⟩;rcases U6 g5 e2 (fun _ h=>h.1) hb with hb|hb|hb
      .exact .inl hb
      .exact .inr hb
      exact hb.elim
     .exact g6.elim
    exact g6.elim
   .exact g6.elim
  cases e with
  |exit id=>exact g6.elim
  |normal=>exact key g6
  |ret=>exact key g6
theorem R6(hrel:aZ P N0 w0 ρ S hv a w):∀{l:List ResultVar}{rs:List (Sh×E)} {fz:List Nat},FM P S l=some (rs,fz)->
  (∀q∈fz,nH S.jd ρ q)/\
  ∃vs,(l.mapM (uI a.tmps)).run P w=.ok vs w/\fI w (NF (NN N0 w0.own ρ S.jd hv) hv fz) (gB ρ rs) vs
 | [],rs,fz,h=>by
  simp[FM]at h;obtain⟨rfl,rfl⟩:=h;exact⟨fun q hq=>by simp at hq,[],by simp,rfl⟩
 | .tmp t::l,rs,fz,h=>by
  simp only[FM]at h;split at h
  .rename_i s e f r g h1 h2;simp at h;obtain⟨rfl,rfl⟩:=h;obtain⟨i0,vs,i1,i2⟩:=R6 hrel h2;obtain⟨x,hx,hd⟩:=vV.1 h1;have h3:=dD hrel (bE ρ) hx;have h4:=Hr (AU hrel.rows (bE ρ) hd h3);have h5:=EA (bE ρ) hd;refine⟨fun q hq=>?_,a.tmps.getD t undef::vs,by simp only[D7,uI];simp[i1],_,_,rfl,?_,?_⟩
   .rcases zx.1 hq with hq|hq
    .exact h5 q hq
    exact i0 q hq
   .have e6:a.eval (.tmp t)=a.tmps.getD t undef:=by simp[Act.eval]
    rw[e6]at h4;refine h4.mono (aS _) fun b hb _=>⟨rfl,?_⟩;rcases hb with hb|⟨q,hq,hg⟩
    .exact .inl hb
    exact .inr ⟨q,zx.2 (.inl hq),hg⟩
   .refine i2.mono (aS _) fun b hb _=>⟨rfl,?_⟩;rcases hb with hb|⟨q,hq,hg⟩
    .exact .inl hb
    .exact .inr ⟨q,zx.2 (.inr hq),hg⟩
  simp at h
 | .cell _ _::_,rs,fz,h=>by simp[FM]at h
theorem aer{N:Nat->Prop}{G:Nat->Prop}{wi:World}(hrel:aZ P N ⟨wi,G⟩ ρ S hv a w){v0:Value}(hG:∀g,G g↔dI v0=some g){l:List ResultVar}{rs:List (Sh×E)}(h:IC P S l=some rs):
  ∃s e rs' v1 vr et xs,rs=(.sl s,e)::rs'/\(l.mapM (uI a.tmps)).run P w=.ok (v1::vr) w/\w.jL (fun g=>wi.heap.size<=g\/dI v0=some g) et s.size v1 (e.eval ρ).toList.length xs/\
   cZ w (Behind N wi v0 v1) s xs (e.eval ρ).toList/\fI w (Behind N wi v0 v1) (gB ρ rs') vr:=by
 have KM:∀{b},(Wb.own ⟨wi,G⟩ b)->wi.heap.size<=b\/dI v0=some b:=fun hb=>hb.imp id (hG _).1;unfold IC at h;split at h
 .rename_i t l;have e6:a.eval (.tmp t)=a.tmps.getD t undef:=by simp[Act.eval]
  split at h
  .rename_i r n hx;split at h
   .rename_i s e Wu fz hor hrf;split at h
    .rename_i hnr;have hnr:r∉fz:=by simpa using hnr
     simp at h;subst h;obtain⟨hfz,vs,i1,i2⟩:=R6 hrel hrf;have hr:=Ey hor;have tY:eu S.jd r=some (s,e,[]):=by simp[eu,hr]
     obtain⟨hv0,_⟩:=(dD hrel (bE ρ) hx).2 s e [] tY (bE ρ);obtain⟨et,xs,hown,hrd,_⟩:=hrel.rows.row r s e [] tY (bE ρ);have Cv:∀b,NN N (Wb.own ⟨wi,G⟩) ρ S.jd hv b->Behind N wi v0 (hv r) b:=by
      intro b hb;refine⟨hb.1.imp id KM,hb.2 r _ hr rfl rfl (bE ρ)⟩
     refine⟨s,e,Wu,hv r,vs,et,xs,rfl,?_,Ew hown fun g _ hg=>KM hg,hrd.mono (aS _) fun b hb _=>⟨rfl,Cv b hb⟩,i2.mono (aS _) fun b hb _=>⟨rfl,?_⟩⟩
     .rw[e6]at hv0;simp only[D7,uI];simp[i1,hv0]
     rcases hb with hb|⟨q,hq,hg⟩
     .exact Cv b hb
     obtain ⟨k2,e5,el,e4⟩:=hfz q hq;exact⟨.inr (KM (hrel.lt e5 el e4 hg).2),fun hc=>hrel.dist r q _ _ b hr e5 (fun e=>hnr (e▸hq)) rfl el (bE ρ) e4 hc hg⟩
    .simp at h
   simp at h
  .rename_i s hx;split at h
   .rename_i Wu fz hrf;simp at h;subst h;obtain⟨hfz,vs,i1,i2⟩:=R6 hrel hrf;obtain⟨us,e1,e2,e3⟩:=dD hrel (bE ρ) hx;simp only[Exact]at e3;subst e3;have hv0:a.tmps.getD t undef=.slice none 0 0:=by rw[<-e6,e2];simp[Sh.mk,Sh.isAgg]
    refine⟨s,.bg,Wu,.slice none 0 0,vs,0,[],rfl,?_,⟨by simp[E.eval],.inl ⟨rfl,by simp[E.eval]⟩⟩,by simp[E.eval,cZ],i2.mono (aS _) fun b hb _=>⟨rfl,?_,by simp[dI]⟩⟩
    .simp only[D7,uI];simp[i1,hv0]
    .rcases hb with hb|⟨q,hq,hg⟩
     .exact hb.1.imp id KM
     .obtain ⟨k2,e5,el,e4⟩:=hfz q hq;exact .inr (KM (hrel.lt e5 el e4 hg).2)
   simp at h
  .simp at h
 simp at h
theorem asf{s:Sh}{c0:C}{args:List (Sh×C)}{et:TypeId}{xs:List Value}{v0:Value}{vs:List Value}(hs0:0<s.size)(hown:w.jL (fun _=>True) et s.size v0 c0.toList.length xs)
  (hrow:cZ w N0 s xs c0.toList) (hne:∀g,dI v0=some g->¬N0 g) (aX:KW P w) (hkb:∀g,dI v0=some g->¬wC P g) (h:fI w N0 args vs) (n:Nat):
  aZ P N0 ⟨w,fun g=>dI v0=some g⟩ (c0::args.map (·.2)) (xX s (args.map (·.1)) n) (fun _=>v0) {tmps:=(v0::vs).toArray++Array.replicate (n-(v0::vs).toArray.size) undef,defers:=[]} w:=by
 have hlen:=M9 h;have hblk:∀(r:Nat) (k:aL),(xX s (args.map (·.1)) n).jd[r]?=some k->k.lb=.none\/(r=n+16/\k=⟨.row s (.vq 0),false,[]⟩):=by
  intro r k hk;simp only[xX]at hk;rw[List.getElem?_append]at hk;split at hk
  .rw[List.getElem?_replicate]at hk;split at hk
   .injection hk with hk;subst hk;exact .inl rfl
   cases hk
  .rename_i hge;have hlt:=(zy.1 hk).1;simp only[qV,yJ]at hlt hge;have hr:r=n+16:=by omega
   subst hr;simp at hk;exact .inr ⟨rfl,hk.symm⟩
 have hq:(xX s (args.map (·.1)) n).jd[n+16]?=some ⟨.row s (.vq 0),false,[]⟩:=by
  simp[xX]
 have Cv:∀b,N0 b->NN N0 (Wb.own ⟨w,fun g=>dI v0=some g⟩) (c0::args.map (·.2)) (xX s (args.map (·.1)) n).jd (fun _=>v0) b:=
  fun b hb=>⟨.inl hb,fun r k _ _ _ _ hc=>hne b hc hb⟩
 have Mr:∀(t:Nat) (ts:TS),(xX s (args.map (·.1)) n).tmps[t]?=some ts->ts.dO=[]/\(ts.sx=.none\/(t=0/\ts.sx=.full (n+16) (.len (.vq 0)))\/∃j s c,t=j+1/\args[j]?=some (s,c)/\ts.sx=.jo s (.vq t)):=by
  intro t ts ht;simp only[xX]at ht;rw[List.getElem?_append]at ht;split at ht
  .cases t with
   |zero=>
    simp at ht;subst ht;exact⟨rfl,.inr (.inl ⟨rfl,rfl⟩)⟩
   |succ j=>
    rw[List.getElem?_cons_succ,ow]at ht;cases hr:(jZ 1 (args.map (·.1)))[j]? with
    |none=>simp[hr]at ht
    |some x=>
     obtain⟨s',e⟩:=x;simp[hr]at ht;subst ht;obtain⟨h1,h2⟩:=R4 _ 1 j s' e hr;rw[ow]at h1;cases ha:args[j]? with
     |none=>simp[ha]at h1
     |some y=>
      obtain⟨s2,c⟩:=y;simp[ha]at h1;subst h1;rw[Cm]at h2;subst h2;exact⟨rfl,.inr (.inr ⟨j,s2,c,rfl,ha,rfl⟩)⟩
  .rw[List.getElem?_replicate]at ht;split at ht
   .injection ht with ht;subst ht;exact⟨rfl,.inl rfl⟩
   .cases ht
 refine⟨rfl,?_,⟨rfl,rfl,rfl,aS _,fun _ _ _=>rfl,aX,fun g hg hb=>hkb g hb hg⟩,fun t ts ht hp=>?_,fun t ts ht hp=>?_,fun r k hr hp=>?_,fun r r' k k' g hr hr' hne' hl hl' _ _ _=>?_⟩
 .simp[xX,QS,hlen];omega
 .rcases (Mr t ts ht).2 with h1|⟨rfl,h1⟩|⟨j,s',c,rfl,h1,h2⟩
  .rw[h1];trivial
  .rw[h1];refine⟨⟨_,hq,by simp⟩,fun s' e p hr _=>?_⟩;simp[eu,hq]at hr;obtain⟨rfl,rfl,rfl⟩:=hr;refine⟨?_,rfl⟩;have:((v0::vs).toArray++Array.replicate (n-(v0::vs).toArray.size) undef)[0]?=some v0:=by
    rw[Array.getElem?_append_left (by simp)];simp
   rw[Array.getD_eq_getD_getElem?,this];rfl
  rw[h2];obtain⟨v,h3,h4⟩:=T9 h h1;have hlt:j<vs.length:=(zy.1 h3).1;have hv:((v0::vs).toArray++Array.replicate (n-(v0::vs).toArray.size) undef).getD (j+1) undef=v:=by
   have:((v0::vs).toArray++Array.replicate (n-(v0::vs).toArray.size) undef)[j+1]?=some v:=by
    rw[Array.getElem?_append_left (by simpa using hlt)];simpa using h3
   rw[Array.getD_eq_getD_getElem?,this];rfl
  simp only[hv];refine zP ?_ (sS (by simp) (by simp));have he:(E.vq (j+1)).eval (c0::args.map (·.2))=c:=by simp[E.eval,List.getD,h1]
  rw[he];exact h4.mono (aS _) fun b hb _=>⟨rfl,Cv b hb⟩
 .exact absurd (by rw[(Mr t ts ht).1];exact bE _) hp
 .rcases hblk r k hr with h1|⟨rfl,rfl⟩
  .rw[h1];trivial
  .exact ⟨et,xs,Ew hown fun g hg _=> .inr hg,hrow.mono (aS _) fun b hb _=>⟨rfl,Cv b hb⟩,hs0⟩
 rcases hblk r k hr with h1|⟨rfl,rfl⟩
 .simp[iq,h1]at hl
 rcases hblk r' k' hr' with h1|⟨rfl,rfl⟩
 .simp[iq,h1]at hl'
 exact absurd rfl hne'
theorem GC.Fz{f:FuncId}{fn:Func}(hf:P.funcs[f]?=some fn)(hname:(fn.name== "runtime.NumGoroutine")=false){s:Sh}{dZ:List Sh}{vc:VC}(iy:VQ P cfg hints fn s dZ=vc)
  {c0 c1:C}{args aK:List (Sh×C)} (hs:args.map (·.1)=dZ) (h:vc.holds P (fun r=>r=(.sl s,c1)::aK) [] (c0::args.map (·.2))):GC P f ((.sl s,c0)::args) ((.sl s,c1)::aK):=by
 subst iy hs;unfold VQ at h;split at h
 .rename_i hs0;have hs0:0<s.size:=by simp at hs0;omega
  cases hb:fn.body with
  |none=>simp only[hb]at h;exact h.elim
  |some c=>
   simp only[hb]at h;refine⟨s,c0,args,c1,aK,rfl,rfl,⟨fn,hf,by simp[hb],hname⟩,fun w N et xs v0 vs aX hkb h1 h2 h3 h4=>calls_of_wp hf hb ?_⟩;have hst:=asf hs0 h1 h2 h3 aX hkb h4 fn.ntmps;refine NR c hst (by simp[xX]) rfl h fun e S' l' ρ' jH hv' a' w' g1 g2 g3 g4 g5 g6=>?_;have key:(∃rs,IC P S' fn.results.toList=some rs/\gB ρ' rs=(.sl s,c1)::aK)->
     a'.defers=[]/\∃v,(results fn a'.tmps).run P w'=.ok v w'/\∃v1 vr gM xs',Ending.returned v=.returned (pack (v1::vr))/\w.grownBy w' (dI v0)/\
      w'.jL (fun g=>w.heap.size<=g\/dI v0=some g) gM s.size v1 c1.toList.length xs'/\cZ w' (Behind N w v0 v1) s xs' c1.toList/\fI w' (Behind N w v0 v1) aK vr:=by
    rintro⟨rs,i1,i2⟩;obtain⟨s',e',rs',v1,vr,gM,xs',rfl,j1,j2,j3,j4⟩:=aer g5 (fun g=>Iff.rfl) i1;simp only[gB,jG,kE,iG,Sh.sl.injEq]at i2;obtain⟨⟨rfl,rfl⟩,rfl⟩:=i2;exact⟨g5.defers,_,JN j1,v1,vr,gM,xs',rfl,⟨g5.below.os,g5.below.tape,g5.below.output,g5.below.size,fun k hk hn=>g5.below.block k hk fun hc=>hn hc.symm⟩,j2,j3,j4⟩
   cases e with
   |exit id=>exact g6.elim
   |normal=>
    refine key ?_;simp only at g6;split at g6
    next rs h1=>exact⟨rs,h1,g6⟩
    exact g6.elim
   |ret=>
    refine key ?_;simp only at g6;split at g6
    next rs h1=>exact⟨rs,h1,g6⟩
    .exact g6.elim
 exact h.elim
theorem FC.Fz{f:FuncId}{fn:Func}(hf:P.funcs[f]?=some fn)(hname:(fn.name== "runtime.NumGoroutine")=false){s:Sh}{dZ:List Sh}{vc:VC}(iy:VR P cfg hints fn dZ=vc)
  {c1:C}{args aK:List (Sh×C)} (hs:args.map (·.1)=dZ) (h:vc.holds P (fun r=>r=(.sl s,c1)::aK) [] (args.map (·.2))):FC P f args ((.sl s,c1)::aK):=by
 subst iy hs;unfold VR at h;cases hb:fn.body with
 |none=>simp only[hb]at h;exact h.elim
 |some c=>
  simp only[hb]at h;refine⟨s,c1,aK,rfl,⟨fn,hf,by simp[hb],hname⟩,fun w N vs aX hrd=>calls_of_wp hf hb ?_⟩;have hst:=RH aX hrd fn.ntmps;refine NR c hst (by simp[vI]) rfl h fun e S' l' ρ' jH hv' a' w' g1 g2 g3 g4 g5 g6=>?_;have key:(∃rs,IC P S' fn.results.toList=some rs/\gB ρ' rs=(.sl s,c1)::aK)->
    a'.defers=[]/\∃v,(results fn a'.tmps).run P w'=.ok v w'/\∃v1 vr gM xs',Ending.returned v=.returned (pack (v1::vr))/\Below w.heap.size w w'/\
     w'.jL (fun g=>w.heap.size<=g) gM s.size v1 c1.toList.length xs'/\cZ w' (Behind N w (.slice none 0 0) v1) s xs' c1.toList/\fI w' (Behind N w (.slice none 0 0) v1) aK vr:=by
   rintro⟨rs,i1,i2⟩;obtain⟨s',e',rs',v1,vr,gM,xs',rfl,j1,j2,j3,j4⟩:=aer g5 (v0:=.slice none 0 0) (fun g=>⟨False.elim,fun h=>by cases h⟩) i1;simp only[gB,jG,kE,iG,Sh.sl.injEq]at i2;obtain⟨⟨rfl,rfl⟩,rfl⟩:=i2;exact⟨g5.defers,_,JN j1,v1,vr,gM,xs',rfl,⟨g5.below.os,g5.below.tape,g5.below.output,g5.below.size,fun k hk=>g5.below.block k hk id⟩,Ew j2 fun g _ hg=>hg.elim id (fun h=>by cases h),j3,j4⟩
  cases e with
  |exit id=>exact g6.elim
  |normal=>
   refine key ?_;simp only at g6;split at g6
   next rs h1=>exact⟨rs,h1,g6⟩
   exact g6.elim
  |ret=>
   refine key ?_;simp only at g6;split at g6
   next rs h1=>exact⟨rs,h1,g6⟩
   exact g6.elim
end
end Go.Vc
namespace Go.Vc
structure xJ where
 grow:List Nat:=[]
 fresh:List Nat:=[]
 LJ:List Nat:=[]
 z8:List (Nat×Sh):=[]
 aK:List (Nat×List Sh):=[]
 cuts:List Nat:=[]
def PI(P:Program)(opt:xJ)(fn:Func):Option (List Sh):=fn.params.toList.zipIdx.mapM fun x=>match opt.z8.find? (·.1==x.2)with|some (_,s)=>some s|none=>yP P x.1
def xJ.cfg(o:xJ)(raw:Bool)(c:Code):fF:= {raw,rows:=ayU c,grow:=o.grow,fresh:=o.fresh,LJ:=o.LJ,keeps:=azl c,aK:=o.aK,marks:=marksOf c,cuts:=o.cuts}
def Vh(P:Program)(raw:Bool)(opt:xJ)(hints:List Hint)(fn:Func):List Sh×VC:=
 match PI P opt fn,fn.body with
 |some dZ,some c=>(dZ,Wo P (opt.cfg raw c) hints fn dZ)
 |_,_=>([],.fail 9000000)
def KA(P:Program)(raw:Bool)(opt:xJ)(hints:List Hint)(fn:Func):List Sh×VC:=
 match PI P opt fn,fn.body with
 |some (.sl s::dZ),some c=>(.sl s::dZ,VQ P (opt.cfg raw c) hints fn s dZ)
 |_,_=>([],.fail 9000000)
def OJ(P:Program)(raw:Bool)(opt:xJ)(hints:List Hint)(fn:Func):List Sh×VC:=
 match PI P opt fn,fn.body with
 |some dZ,some c=>(dZ,VR P (opt.cfg raw c) hints fn dZ)
 |_,_=>([],.fail 9000000)
def UN(P:Program)(raw:Bool)(opt:xJ)(hints:List Hint)(fn:Func):List Sh×VC:=
 match PI P opt fn,fn.body with
 |some dZ,some c=>(dZ,VP P (opt.cfg raw c) hints fn dZ)
 |_,_=>([],.fail 9000000)
theorem PC.aBB{P:Program}{raw:Bool}{opt:xJ}{hints:List Hint}{f:FuncId}{fn:Func}(hf:P.funcs[f]?=some fn)(hname:(fn.name== "runtime.NumGoroutine")=false){s:Sh}{dZ:List Sh}{vc:VC}
  (iy:UN P raw opt hints fn=(dZ,vc)) {c1:C}{args:List (Sh×C)} (hs:args.map (·.1)=dZ) (h:vc.holds P (fun r=>r=[(s,c1)]) [] (args.map (·.2))):
  PC P (3000000+f) args [(s,c1)]:=by
 unfold UN at iy;split at iy
 .simp only[iG]at iy;exact PC.ofN (NC.Fz hf hname iy.2 (hs.trans iy.1.symm) h)
 simp only[iG]at iy;rw[<-iy.2]at h;exact h.elim
theorem PC.auto{P:Program}{raw:Bool}{opt:xJ}{hints:List Hint}{f:FuncId}{fn:Func}(hlt:f<1000000)(hf:P.funcs[f]?=some fn)(hname:(fn.name== "runtime.NumGoroutine")=false){dZ:List Sh}{vc:VC}
  (iy:Vh P raw opt hints fn=(dZ,vc)) {args aK:List (Sh×C)} (hs:args.map (·.1)=dZ) (h:vc.holds P (fun r=>r=aK) [] (args.map (·.2))):PC P f args aK:=by
 unfold Vh at iy;split at iy
 .simp only[iG]at iy;exact PC.Fz hlt hf hname iy.2 (hs.trans iy.1.symm) h
 simp only[iG]at iy;rw[<-iy.2]at h;exact h.elim
theorem PC.VY{P:Program}{raw:Bool}{opt:xJ}{hints:List Hint}{f:FuncId}{fn:Func}(hlt:f<1000000)(hf:P.funcs[f]?=some fn)(hname:(fn.name== "runtime.NumGoroutine")=false){s:Sh}{dZ:List Sh}{vc:VC}
  (iy:KA P raw opt hints fn=(.sl s::dZ,vc)) {c0 c1:C}{args aK:List (Sh×C)} (hs:args.map (·.1)=dZ) (h:vc.holds P (fun r=>r=(.sl s,c1)::aK) [] (c0::args.map (·.2))):
  PC P (1000000+f) ((.sl s,c0)::args) ((.sl s,c1)::aK):=by
 unfold KA at iy;split at iy
 .simp only[iG,kE,Sh.sl.injEq]at iy;obtain⟨⟨rfl,h1⟩,h2⟩:=iy;exact PC.ofG hlt (GC.Fz hf hname h2 (hs.trans h1.symm) h)
 simp only[iG]at iy;rw[<-iy.2]at h;exact h.elim
theorem PC.akv{P:Program}{raw:Bool}{opt:xJ}{hints:List Hint}{f:FuncId}{fn:Func}(hlt:f<1000000)(hf:P.funcs[f]?=some fn)(hname:(fn.name== "runtime.NumGoroutine")=false){s:Sh}{dZ:List Sh}{vc:VC}
  (iy:OJ P raw opt hints fn=(dZ,vc)) {c1:C}{args aK:List (Sh×C)} (hs:args.map (·.1)=dZ) (h:vc.holds P (fun r=>r=(.sl s,c1)::aK) [] (args.map (·.2))):
  PC P (2000000+f) args ((.sl s,c1)::aK):=by
 unfold OJ at iy;split at iy
 .simp only[iG]at iy;exact PC.ofF hlt (FC.Fz hf hname iy.2 (hs.trans iy.1.symm) h)
 simp only[iG]at iy;rw[<-iy.2]at h;exact h.elim
abbrev Vp(P:Program)(f:FuncId)(dZ:List Sh)(vc:VC):Prop:=∀{args aK:List (Sh×C)},args.map (·.1)=dZ->vc.holds P (fun r=>r=aK) [] (args.map (·.2))->PC P f args aK
theorem jv{P:Program}{f:FuncId}{fn:Func}(hf:P.funcs[f]?=some fn)(opt:xJ)(hints:List Hint){dZ:List Sh}{vc:VC}(hlt:f<1000000:=by decide)(hname:(fn.name== "runtime.NumGoroutine")=false:=by kernel_rfl)(iy:Vh P true opt hints fn=(dZ,vc):=by kernel_rfl):Vp P f dZ vc:=fun hs h=>PC.auto hlt hf hname iy hs h
abbrev ah:Sh:=.int .i64
abbrev rO:Sh:=.int .u8
abbrev bI:Sh:=.int .u32
abbrev eX:Sh:=.int .u16
abbrev dG:Sh:=.int .u64
abbrev ay:Sh:=.sl rO
abbrev bn:E:=.bool true
abbrev bf:E:=.bool false
abbrev bK(a b:E):E:=.cmp .eql a b
abbrev bH(a b:E):E:=.cmp .geq a b
abbrev dh(a b:E):E:=.cmp .gtr a b
abbrev aT(a b:E):E:=.cmp .leq a b
abbrev aY(a b:E):E:=.cmp .lss a b
abbrev bL(a b:E):E:=.cmp .neq a b
abbrev aP(a:E):E:=.fits .i64 a
abbrev aj:E:=.int 0
abbrev aH:E:=.int 1
abbrev dU:E:=.int 2
abbrev iZ:E:=.int 3
abbrev aW:E:=.int 4
abbrev uf:E:=.int 5
abbrev qG:E:=.int 6
abbrev D8:E:=.int 7
abbrev dX:E:=.int 8
abbrev Qk:E:=.int 9
abbrev Ls:E:=.int 10
abbrev akB:E:=.int 11
abbrev vO:E:=.int 12
abbrev aBO:E:=.int 13
abbrev Lr:E:=.int 14
abbrev Lp:E:=.int 15
abbrev mW:E:=.int 16
abbrev FK:E:=.int 18
abbrev Iw:E:=.int 20
abbrev uO:E:=.int 24
abbrev akA:E:=.int 28
abbrev BL:E:=.int 31
abbrev qm:E:=.int 32
abbrev VZ:E:=.int 34
abbrev aBN:E:=.int 48
abbrev aBM:E:=.int 63
abbrev akz:E:=.int 64
abbrev aBL:E:=.int 92
abbrev aBK:E:=.int 96
abbrev aA4:E:=.int 126
abbrev Pb:E:=.int 127
abbrev O9:E:=.int 128
abbrev aA3:E:=.int 144
abbrev aA2:E:=.int 190
abbrev aA1:E:=.int 192
abbrev ajQ:E:=.int 200
abbrev aA0:E:=.int 201
abbrev aAZ:E:=.int 202
abbrev aAY:E:=.int 203
abbrev aAX:E:=.int 204
abbrev aAW:E:=.int 222
abbrev aAV:E:=.int 223
abbrev ajP:E:=.int 252
abbrev uH:E:=.int 255
abbrev ajO:E:=.int 256
abbrev Vk:E:=.int 300
abbrev aAU:E:=.int 400
abbrev aAT:E:=.int 416
abbrev azU:E:=.int 3000
abbrev UU:E:=.int 4000
abbrev aiD:E:=.int 4096
abbrev azT:E:=.int 8190
abbrev azS:E:=.int 8191
abbrev ayr:E:=.int 16380
abbrev ayq:E:=.int 16384
abbrev ahg:E:=.int 32768
abbrev Ko:E:=.int 48862
abbrev Kn:E:=.int 65520
abbrev Bf:E:=.int 65528
abbrev ayp:E:=.int 65533
abbrev zD:E:=.int 65535
abbrev Uc:E:=.int 65536
abbrev aw2:E:=.int 131072
abbrev aw1:E:=.int 262140
abbrev aw0:E:=.int 262143
abbrev af3:E:=.int 262144
abbrev avF:E:=.int 8388607
abbrev avE:E:=.int 8388608
abbrev arY:E:=.int 2147483648
abbrev Rj:E:=.int 4294967295
abbrev dM:E:=.int 140737488355328
abbrev y7:E:=.int 281474976710656
abbrev amf:E:=.int 9223372036854775807
abbrev iF(a:E):E:=.conv .u8 a
abbrev aAS(a:E):E:=.conv .i32 a
abbrev kK(a:E):E:=.conv .i64 a
abbrev Fq(a:E):E:=.conv .u16 a
abbrev rX(a:E):E:=.conv .u32 a
abbrev gD(a:E):E:=.conv .u64 a
abbrev KE(a b:E):E:=.bin .or .u8 a b
abbrev Bd(a b:E):E:=.bin .and .u8 a b
abbrev Oe(a b:E):E:=.bin .or .i64 a b
abbrev Ub(a b:E):E:=.bin .or .u16 a b
abbrev ahf(a b:E):E:=.bin .or .u64 a b
abbrev ayo(a b:E):E:=.bin .shl .u8 a b
abbrev G8(a b:E):E:=.bin .shr .u8 a b
abbrev NM(a b:E):E:=.bin .add .u64 a b
abbrev af2(a b:E):E:=.bin .and .i64 a b
abbrev NK(a b:E):E:=.bin .and .u16 a b
abbrev NJ(a b:E):E:=.bin .and .u64 a b
abbrev Kc(a b:E):E:=.bin .mul .u64 a b
abbrev EC(a b:E):E:=.bin .quo .i64 a b
abbrev iM(a b:E):E:=.bin .rem .i64 a b
abbrev Ka(a b:E):E:=.bin .shl .i64 a b
abbrev Tv(a b:E):E:=.bin .shl .u16 a b
abbrev awZ(a b:E):E:=.bin .shl .u32 a b
abbrev Tt(a b:E):E:=.bin .shl .u64 a b
abbrev NI(a b:E):E:=.bin .shr .i64 a b
abbrev GY(a b:E):E:=.bin .shr .u16 a b
abbrev CV(a b:E):E:=.bin .shr .u32 a b
abbrev CU(a b:E):E:=.bin .shr .u64 a b
abbrev bX(a b:E):E:=.cons a b
abbrev aF(a b:E):E:=.raw .add a b
abbrev bG(a b:E):E:=.raw .mul a b
abbrev eF(a b:E):E:=.raw .sub a b
abbrev au:E:=.vq 0
abbrev aB:E:=.vq 1
abbrev aI:E:=.vq 2
abbrev aN:E:=.vq 3
abbrev aU:E:=.vq 4
abbrev aR:E:=.vq 5
abbrev bC:E:=.vq 6
abbrev bU:E:=.vq 7
abbrev dH:E:=.vq 8
abbrev fP:E:=.vq 9
abbrev iE:E:=.vq 10
abbrev oU:E:=.vq 11
abbrev nS:E:=.vq 12
abbrev ql:E:=.vq 13
abbrev rZ:E:=.vq 14
abbrev rF:E:=.vq 15
abbrev Iu:E:=.vq 16
abbrev aBH:E:=.vq 17
abbrev aky:E:=.vq 18
abbrev aA(a:E):E:=.hd (.tl a)
abbrev aBR(a:E):E:=.hd (.tl (.tl (.tl (.tl (.tl (.tl (.tl (.tl (.tl (.tl a))))))))))
abbrev aBQ(a:E):E:=.hd (.tl (.tl (.tl (.tl (.tl (.tl (.tl (.tl (.tl (.tl (.tl a)))))))))))
abbrev aBP(a:E):E:=.hd (.tl (.tl (.tl (.tl (.tl (.tl (.tl (.tl (.tl (.tl (.tl (.tl a))))))))))))
abbrev aM(a:E):E:=.hd (.tl (.tl a))
abbrev cK(a:E):E:=.hd (.tl (.tl (.tl a)))
abbrev p8(a:E):E:=.hd (.tl (.tl (.tl (.tl a))))
abbrev zh6(a:E):E:=.hd (.tl (.tl (.tl (.tl (.tl (.tl a))))))
abbrev zh7(a:E):E:=.hd (.tl (.tl (.tl (.tl (.tl (.tl (.tl a)))))))
abbrev fJ(a b t:E):E:=.cons a (.cons b t)
abbrev dK(a b c t:E):E:=.cons a (.cons b (.cons c t))
abbrev dS(a b c d t:E):E:=.cons a (.cons b (.cons c (.cons d t)))
abbrev oD(a b c d e t:E):E:=.cons a (.cons b (.cons c (.cons d (.cons e t))))
abbrev dJ(a b c d e f t:E):E:=.cons a (.cons b (.cons c (.cons d (.cons e (.cons f t)))))
abbrev aBJ(a:E):E:=.tl (.tl (.tl (.tl (.tl (.tl (.tl (.tl (.tl (.tl a)))))))))
abbrev aBI(a:E):E:=.tl (.tl (.tl (.tl (.tl (.tl (.tl (.tl (.tl (.tl (.tl (.tl a)))))))))))
abbrev dW(a:E):E:=.tl (.tl a)
abbrev gX(a:E):E:=.tl (.tl (.tl a))
abbrev mP(a:E):E:=.tl (.tl (.tl (.tl a)))
section
variable{P:Program}{Post:List (Sh×C)->Prop}{B:List (List C->Prop)}{ρ:List C}{p:bq}{e:E}{k a b:VC}
theorem VC.ajN:(VC.ak p e k).holds P Post B ρ=((bF ρ p->(e.eval ρ).toBool=true)/\k.holds P Post B ρ):=id rfl
theorem VC.ajM:(VC.cond e a b).holds P Post B ρ=(((e.eval ρ).toBool=true->a.holds P Post B ρ)/\((e.eval ρ).toBool=false->b.holds P Post B ρ)):=id rfl
theorem VC.akx:(VC.Cz e a b).holds P Post B ρ=(((e.eval ρ).toList=[]->a.holds P Post B ρ)/\b.holds P Post B ρ):=id rfl
theorem VC.akw{rs:List (Sh×E)}:(VC.ret rs).holds P Post B ρ=Post (gB ρ rs):=id rfl
theorem VC.KY{lvl:Nat}{es:List E}:(VC.jm lvl es).holds P Post B ρ=(B.getD lvl fun _=>False) (es.map (·.eval ρ)):=id rfl
theorem VC.Vj{f:Nat}{args:List (Sh×E)}{aK:List Sh}:(VC.call p f args aK k).holds P Post B ρ=
  ∃res:List C,res.length=aK.length/\(bF ρ p->PC P f (gB ρ args) (aK.zip res))/\k.holds P Post B (ρ++res):=id rfl
theorem VC.aiA{f:Nat}{args:List (Sh×E)}{r:Sh}:(VC.call p f args [r] k).holds P Post B ρ=
  ∃x:C,(bF ρ p->PC P f (gB ρ args) [(r,x)])/\k.holds P Post B (ρ++ [x]):=by
 apply propext;rw[VC.Vj];constructor
 .rintro ⟨res,h,h1,h2⟩;match res,h with
  | [x],_=>exact⟨x,h1,h2⟩
 rintro ⟨x,h1,h2⟩;exact⟨[x],rfl,h1,h2⟩
theorem VC.aiz{f:Nat}{args:List (Sh×E)}{r r':Sh}:(VC.call p f args [r,r'] k).holds P Post B ρ=
  ∃x y:C,(bF ρ p->PC P f (gB ρ args) [(r,x),(r',y)])/\k.holds P Post B (ρ++ [x,y]):=by
 apply propext;rw[VC.Vj];constructor
 .rintro ⟨res,h,h1,h2⟩;match res,h with
  | [x,y],_=>exact⟨x,y,h1,h2⟩
 rintro ⟨x,y,h1,h2⟩;exact⟨[x,y],rfl,h1,h2⟩
theorem VC.aiy{f:Nat}{args:List (Sh×E)}{r r' r'':Sh}:(VC.call p f args [r,r',r''] k).holds P Post B ρ=
  ∃x y z:C,(bF ρ p->PC P f (gB ρ args) [(r,x),(r',y),(r'',z)])/\k.holds P Post B (ρ++ [x,y,z]):=by
 apply propext;rw[VC.Vj];constructor
 .rintro ⟨res,h,h1,h2⟩;match res,h with
  | [x,y,z],_=>exact⟨x,y,z,h1,h2⟩
 rintro ⟨x,y,z,h1,h2⟩;exact⟨[x,y,z],rfl,h1,h2⟩
end
def CK(B B':List (List C->Prop)):Prop:=B.length=B'.length/\∀(i:Nat) (f g:List C->Prop) (vs:List C),B[i]?=some f->B'[i]?=some g->f vs->g vs
theorem CK.snoc{B B':List (List C->Prop)}(h:CK B B')(f:List C->Prop):CK (B++ [f]) (B'++ [f]):=by
 refine⟨by simp[h.1],fun i g g' vs h1 h2 h3=>?_⟩;by_cases hi:i<B.length
 .rw[xw hi]at h1;rw[xw (by rw[<-h.1];exact hi)]at h2;exact h.2 i g g' vs h1 h2 h3
 have hi':i=B.length:=by
  have:=(zy.1 h1).1;simp at this;omega
 subst hi';rw[F6 (aS _)]at h1;rw[F6 (by rw[h.1];exact aS _)]at h2;rw[h.1]at h2;simp at h1 h2;subst h1 h2;exact h3
theorem VC.vD{P:Program}{Post:List (Sh×C)->Prop}:∀{B B':List (List C->Prop)} {ρ:List C}(_:CK B B') (k:VC),k.holds P Post B ρ->k.holds P Post B' ρ
 |_,_,_,_,.fail _,h=>h
 |_,_,_,hb,.ak _ _ k,h=>⟨h.1,VC.vD hb k h.2⟩
 |_,_,_,hb,.call _ _ _ _ k,h=>let ⟨res,h1,h2,h3⟩:=h;⟨res,h1,h2,VC.vD hb k h3⟩
 |_,_,_,hb,.cond _ a b,h=>⟨fun hc=>VC.vD hb a (h.1 hc),fun hc=>VC.vD hb b (h.2 hc)⟩
 |_,_,_,hb,.Cz _ a b,h=>⟨fun hc=>VC.vD hb a (h.1 hc),VC.vD hb b h.2⟩
 |_,_,_,_,.ret _,h=>h
 |_,_,_,hb,.loop _ k,h=>let ⟨I,μ,h1,h2⟩:=h;⟨I,μ,h1,fun vs hl hi=>VC.vD (hb.snoc _) k (h2 vs hl hi)⟩
 |_,_,_,hb,.cut _ k r,h=>let ⟨I,h1,h2⟩:=h;⟨I,VC.vD (hb.snoc _) k h1,fun vs hl hi=>VC.vD hb r (h2 vs hl hi)⟩
 |B,B',ρ,hb,.jm lvl es,h=>by
  simp only[VC.KY,F7]at h |-;cases h1:B[lvl]? with
  |none=>rw[h1]at h;exact h.elim
  |some f=>
   rw[h1]at h;have hlt:lvl<B'.length:=by
    have:=(zy.1 h1).1;have:=hb.1;omega
   rw[nL hlt];exact hb.2 lvl f _ _ h1 (nL hlt) h
section
variable{P:Program}{Post:List (Sh×C)->Prop}{B:List (List C->Prop)}{ρ:List C}{p:bq}{e:E}{k a b:VC}
theorem VC.go_call{f:Nat}{args:List (Sh×E)}{aK:List Sh}{args' vM:List (Sh×C)}(h:PC P f args' vM)(ha:gB ρ args=args')(hr:vM.map (·.1)=aK)
  (hk:k.holds P Post B (ρ++vM.map (·.2))):(VC.call p f args aK k).holds P Post B ρ:=by
 subst ha hr;refine⟨vM.map (·.2),by simp,fun _=>?_,hk⟩;have:∀l:List (Sh×C),(l.map (·.1)).zip (l.map (·.2))=l:=by
  intro l;induction l with
  |nil=>rfl
  |cons x l ih=>simp[ih]
 rw[this];exact h
theorem VC.go_meet{n:Nat}{b r:VC}(Wt:List C)(h1:b.holds P Post (B++ [fun vs=>vs=Wt]) ρ)(h2:r.holds P Post B (ρ++Wt)):(VC.cut n b r).holds P Post B ρ:=⟨fun vs=>vs=Wt,h1,fun vs _ h=>by rw[h];exact h2⟩
theorem VC.aAD(h:(e.eval ρ).toBool=true)(h1:a.holds P Post B ρ):(VC.cond e a b).holds P Post B ρ:=⟨fun _=>h1,fun h'=>absurd (h.symm.trans h') (by decide)⟩
theorem VC.aBy(h:(e.eval ρ).toBool=false)(h1:b.holds P Post B ρ):(VC.cond e a b).holds P Post B ρ:=⟨fun h'=>absurd (h.symm.trans h') (by decide),fun _=>h1⟩
theorem VC.jw{init:List E}{St:Type}(enc:St->List C)(I:St->Prop)(μ:St->Nat)(s0:St)(h0:init.map (·.eval ρ)=enc s0)(hI:I s0)
  (h:∀s,I s->k.holds P Post (B++ [fun vs=>∃s',vs=enc s'/\I s'/\μ s'<μ s]) (ρ++enc s)):(VC.loop init k).holds P Post B ρ:=by
 classical
 let Q:List C->Nat->Prop:=fun vs m=>∃s,vs=enc s/\I s/\μ s=m
 have least:∀vs m,Q vs m->∃m0,Q vs m0/\∀m',Q vs m'->m0<=m':=by
  intro vs m;induction m using Nat.strongRecOn with
  |ind m ih=>
   intro hm;by_cases hx:∃m',m'<m/\Q vs m'
   .obtain ⟨m',h1,h2⟩:=hx;exact ih m' h1 h2
   .exact ⟨m,hm,fun m' hm'=>Nat.le_of_not_lt fun hlt=>hx ⟨m',hlt,hm'⟩⟩
 let ν:List C->Nat:=fun vs=>if hx:∃m,Q vs m/\∀m',Q vs m'->m<=m' then Classical.choose hx else 0
 have hν:∀vs,(∃s,vs=enc s/\I s)->Q vs (ν vs)/\∀m',Q vs m'->ν vs<=m':=by
  rintro vs ⟨s,h1,h2⟩;have hx:∃m,Q vs m/\∀m',Q vs m'->m<=m':=least vs (μ s) ⟨s,h1,h2,rfl⟩;have he:ν vs=Classical.choose hx:=dif_pos hx;rw[he];exact Classical.choose_spec hx
 refine⟨fun vs=>∃s,vs=enc s/\I s,ν,⟨s0,h0,hI⟩,fun vs _ hvs=>?_⟩;obtain⟨⟨s,h1,h2,h3⟩,_⟩:=hν vs hvs;have hs:=h s h2;rw[<-h1]at hs;refine VC.vD ?_ k hs;refine⟨by simp,fun i f g vs' hf hg hfv=>?_⟩;by_cases hi:i<B.length
 .rw[xw hi]at hf hg;rw[hf]at hg;cases hg;exact hfv
 have hi':i=B.length:=by
  have:=(zy.1 hf).1;simp at this;omega
 subst hi';simp at hf hg;subst hf hg;obtain⟨s',g1,g2,g3⟩:=hfv;refine⟨⟨s',g1,g2⟩,?_⟩;have:=(hν vs' ⟨s',g1,g2⟩).2 (μ s') ⟨s',g1,g2,rfl⟩;omega
end
theorem agq(ρ:List C):bF ρ []=True:=by simp[bF]
theorem afp(ρ:List C)(e:E)(b:Bool)(l:bq):bF ρ ((e,b)::l)=((e.eval ρ).toBool=b/\bF ρ l):=by simp[bF]
section
variable{c:Prop}[Decidable c]{x y:C}{b:Bool}
theorem aef:(if c then x else y).toBool=if c then x.toBool else y.toBool:=by split<;>rfl
theorem ae3:(if c then x else y).toInt=if c then x.toInt else y.toInt:=by split<;>rfl
theorem aee:(if c then x else y).toList=if c then x.toList else y.toList:=by split<;>rfl
theorem ae2:(if c then x else y).jk=if c then x.jk else y.jk:=by split<;>rfl
theorem ahI{a b:Int}:(if c then C.int a else C.int b)=C.int (if c then a else b):=by split<;>rfl
theorem Oa{a b:Bool}:(if c then C.bool a else C.bool b)=C.bool (if c then a else b):=by split<;>rfl
theorem ai2{a b:List C}:(if c then C.ls a else C.ls b)=C.ls (if c then a else b):=by split<;>rfl
theorem ahn{a b:List UInt8}:(if c then C.str a else C.str b)=C.str (if c then a else b):=by split<;>rfl
theorem orT:((if c then true else b)=true)=(c\/b=true):=by by_cases h:c<;>simp[h]
theorem orF:((if c then true else b)=false)=(¬c/\b=false):=by by_cases h:c<;>simp[h]
theorem akW:((if c then b else false)=true)=(c/\b=true):=by by_cases h:c<;>simp[h]
theorem akX:((if c then b else false)=false)=(¬c\/b=false):=by by_cases h:c<;>simp[h]
theorem akG:((!b)=true)=(b=false):=by cases b<;>simp
theorem akH:((!b)=false)=(b=true):=by cases b<;>simp
theorem nnE{α:Type}{a b:α}:(¬a≠b)=(a=b):=by simp
end
section
variable(ρ:List C)(x y z:E)(n:Int)
theorem aje(i:Nat):(E.vq i).eval ρ=ρ.getD i default:=id rfl
theorem ajr:(E.int n).eval ρ=.int n:=id rfl
theorem ah7(b:Bool):(E.bool b).eval ρ=.bool b:=id rfl
theorem ajg(s:List UInt8):(E.str s).eval ρ=.str s:=id rfl
theorem ajk:E.nil.eval ρ=.ls []:=id rfl
theorem ahX:E.bg.eval ρ=.ls []:=id rfl
theorem ah6:(E.cons x y).eval ρ=.ls (x.eval ρ::(y.eval ρ).toList):=id rfl
theorem akt:(E.hd x).eval ρ=(x.eval ρ).hd:=id rfl
theorem aks:(E.tl x).eval ρ=(x.eval ρ).tl:=id rfl
theorem ah3(j:Nat):(E.rH j x y).eval ρ=(x.eval ρ).rH j (y.eval ρ):=id rfl
theorem ajy(o:BinOp)(k:IntKind):(E.bin o k x y).eval ρ=.int (arith o k (x.eval ρ).toInt (y.eval ρ).toInt):=id rfl
theorem ajB:(E.raw .add x y).eval ρ=.int ((x.eval ρ).toInt+(y.eval ρ).toInt):=id rfl
theorem ahR:(E.raw .sub x y).eval ρ=.int ((x.eval ρ).toInt-(y.eval ρ).toInt):=id rfl
theorem ajm:(E.raw .mul x y).eval ρ=.int ((x.eval ρ).toInt*(y.eval ρ).toInt):=id rfl
theorem ajv:(E.cmp .eql x y).eval ρ=.bool (decide ((x.eval ρ).toInt=(y.eval ρ).toInt)):=by simp[E.eval,mY,BEq.beq]
theorem ajl:(E.cmp .neq x y).eval ρ=.bool (decide ((x.eval ρ).toInt≠(y.eval ρ).toInt)):=by simp[E.eval,mY,bne,BEq.beq]
theorem ajn:(E.cmp .lss x y).eval ρ=.bool (decide ((x.eval ρ).toInt<(y.eval ρ).toInt)):=id rfl
theorem ajo:(E.cmp .leq x y).eval ρ=.bool (decide ((x.eval ρ).toInt<=(y.eval ρ).toInt)):=id rfl
theorem ajt:(E.cmp .gtr x y).eval ρ=.bool (decide ((y.eval ρ).toInt<(x.eval ρ).toInt)):=id rfl
theorem aju:(E.cmp .geq x y).eval ρ=.bool (decide ((y.eval ρ).toInt<=(x.eval ρ).toInt)):=id rfl
theorem ahW:(E.tX .eql x y).eval ρ=.bool (decide ((x.eval ρ).jk=(y.eval ρ).jk)):=by
 simp only[E.eval,yD];congr 1;by_cases h:(x.eval ρ).jk=(y.eval ρ).jk<;>simp[h]
theorem ahT:(E.tX .neq x y).eval ρ=.bool (decide ((x.eval ρ).jk≠(y.eval ρ).jk)):=by
 simp only[E.eval,yD];congr 1;by_cases h:(x.eval ρ).jk=(y.eval ρ).jk<;>simp[h]
theorem ajz:(E.beq x y).eval ρ=.bool (decide ((x.eval ρ).toBool=(y.eval ρ).toBool)):=by
 simp only[E.eval];congr 1
theorem ajj:(E.not x).eval ρ=.bool !(x.eval ρ).toBool:=id rfl
theorem ajq:(E.ite x y z).eval ρ=if(x.eval ρ).toBool=true then y.eval ρ else z.eval ρ:=id rfl
theorem ah5(k:IntKind):(E.conv k x).eval ρ=.int (k.wrap (x.eval ρ).toInt):=id rfl
theorem ahQ(k:IntKind):(E.Iy k x).eval ρ=.int (k.wrap (BitVec.ofInt k.bits (if k.signed then-1 else k.max)^^^BitVec.ofInt k.bits (x.eval ρ).toInt).toNat):=id rfl
theorem ajp:(E.len x).eval ρ=.int (x.eval ρ).toList.length:=id rfl
theorem ahU:(E.gG x).eval ρ=.int (x.eval ρ).jk.length:=id rfl
theorem ajs:(E.idx x y).eval ρ=(x.eval ρ).toList.getD (y.eval ρ).toInt.toNat default:=id rfl
theorem ahV:(E.BM x y).eval ρ=.int ((x.eval ρ).jk.getD (y.eval ρ).toInt.toNat 0).toNat:=id rfl
theorem ajf:(E.sub x y z).eval ρ=.ls (((x.eval ρ).toList.take (z.eval ρ).toInt.toNat).drop (y.eval ρ).toInt.toNat):=id rfl
theorem ahS:(E.zX x y z).eval ρ=.str (((x.eval ρ).jk.take (z.eval ρ).toInt.toNat).drop (y.eval ρ).toInt.toNat):=id rfl
theorem ajA:(E.app x y).eval ρ=.ls ((x.eval ρ).toList++(y.eval ρ).toList):=id rfl
theorem ajh:(E.set x y z).eval ρ=.ls ((x.eval ρ).toList.set (y.eval ρ).toInt.toNat (z.eval ρ)):=id rfl
theorem aji:(E.rep x y).eval ρ=.ls (List.replicate (x.eval ρ).toInt.toNat (y.eval ρ)):=id rfl
theorem afL:(E.jr x y z).eval ρ=.ls (Vc.jr (x.eval ρ).toList (y.eval ρ).toInt.toNat (z.eval ρ).toList):=id rfl
theorem agQ:(E.jk x).eval ρ=.str (bytesOf (x.eval ρ).toList):=id rfl
theorem agR:(E.ofStr x).eval ρ=.ls (ofBytes (x.eval ρ).jk):=id rfl
theorem ajx:(E.cat x y).eval ρ=.str ((x.eval ρ).jk++(y.eval ρ).jk):=id rfl
theorem ahZ:(E.qR x y).eval ρ=.int (min (x.eval ρ).toInt (y.eval ρ).toInt):=id rfl
theorem ah2:(E.FQ x y).eval ρ=.int (max (x.eval ρ).toInt (y.eval ρ).toInt):=id rfl
theorem ajw(s:Sh):(E.Cx s x y).eval ρ=.bool (oN s (x.eval ρ) (y.eval ρ)):=id rfl
theorem afM:(E.fits .i64 x).eval ρ=.bool (decide (-9223372036854775808<=(x.eval ρ).toInt/\(x.eval ρ).toInt<=9223372036854775807)):=id rfl
theorem ah1:(E.jF x y z).eval ρ=(match jD (x.eval ρ).toList (y.eval ρ).toInt with|some d=>d.tl.hd|none=>z.eval ρ):=id rfl
theorem ah0:(E.vQ x y).eval ρ=.bool (jD (x.eval ρ).toList (y.eval ρ).toInt).isSome:=id rfl
theorem ahY:(E.lQ x y z).eval ρ=.ls (pQ (x.eval ρ).toList (y.eval ρ).toInt (z.eval ρ)):=id rfl
theorem agS:(E.zW x y).eval ρ=.int (Utf8.decode ⟨(x.eval ρ).jk.toArray⟩ (y.eval ρ).toInt.toNat).1:=id rfl
theorem ah4:(E.Ah x y).eval ρ=.int (Utf8.decode ⟨(x.eval ρ).jk.toArray⟩ (y.eval ρ).toInt.toNat).2:=id rfl
theorem ajD:gB ρ []=[]:=id rfl
theorem ah9(s:Sh)(l:List (Sh×E)):gB ρ ((s,x)::l)=(s,x.eval ρ)::gB ρ l:=id rfl
theorem dV:(C.int n).toInt=n:=id rfl
theorem lI(b:Bool):(C.bool b).toBool=b:=id rfl
theorem Pf(s:List UInt8):(C.str s).jk=s:=id rfl
theorem gU(l:List C):(C.ls l).toList=l:=id rfl
theorem iP(c:C)(l:List C):(C.ls (c::l)).hd=c:=id rfl
theorem jE(c:C)(l:List C):(C.ls (c::l)).tl=.ls l:=id rfl
theorem agU{α:Type}(a d:α)(l:List α):(a::l).getD 0 d=a:=id rfl
theorem agV{α:Type}(a d:α)(l:List α)(n:Nat):(a::l).getD (n+1) d=l.getD n d:=id rfl
theorem agW{α:Type}(a:α)(l m:List α):(a::l)++m=a::(l++m):=id rfl
theorem ah8{α:Type}(l:List α): []++l=l:=id rfl
end
@[simp] theorem qK(n:Int):IntKind.u8.wrap n=n%256:=by simp[IntKind.wrap,IntKind.bits,IntKind.signed]
@[simp] theorem G9(n:Int):IntKind.u16.wrap n=n%65536:=by simp[IntKind.wrap,IntKind.bits,IntKind.signed]
@[simp] theorem Og(n:Int):IntKind.u32.wrap n=n%4294967296:=by simp[IntKind.wrap,IntKind.bits,IntKind.signed]
@[simp] theorem nP(n:Int):IntKind.u64.wrap n=n%18446744073709551616:=by simp[IntKind.wrap,IntKind.bits,IntKind.signed]
theorem Kq(n:Int):IntKind.i64.wrap n=(n+9223372036854775808)%18446744073709551616-9223372036854775808:=by
 simp[IntKind.wrap,IntKind.bits,IntKind.signed];split<;>omega
theorem lY{n:Int}(h: -9223372036854775808<=n/\n<9223372036854775808):IntKind.i64.wrap n=n:=by rw[Kq];omega
@[simp] theorem ai0:IntKind.i64.min= -9223372036854775808:=rfl
@[simp] theorem ai1:IntKind.i64.max=9223372036854775807:=rfl
@[simp] theorem aDt(k:IntKind)(x y:Int):arith .add k x y=k.wrap (x+y):=rfl
@[simp] theorem aDr(k:IntKind)(x y:Int):arith .sub k x y=k.wrap (x-y):=rfl
@[simp] theorem aDs(k:IntKind)(x y:Int):arith .mul k x y=k.wrap (x*y):=rfl
theorem afY(k:IntKind)(x y:Int)(h:0<=x):arith .quo k x y=k.wrap (x/y):=by simp only[arith];rw[Int.tdiv_eq_ediv_of_nonneg h]
theorem NA(k:IntKind)(x y:Int)(h:0<=x):arith .rem k x y=x%y:=by simp only[arith];rw[Int.tmod_eq_emod_of_nonneg h]
theorem wG(k:IntKind)(x y:Int):arith .shl k x y=k.wrap (x*2^(min y.toNat k.bits)):=rfl
theorem vG(k:IntKind)(x y:Int):arith .shr k x y=x/2^(min y.toNat k.bits):=by
 simp only[arith];exact Int.fdiv_eq_ediv_of_nonneg _ (Int.pow_nonneg (by decide))
theorem Nt(w a:Nat):BitVec.ofInt w (a:Int)=BitVec.ofNat w a:=BitVec.ofInt_natCast w a
theorem af4{k:IntKind}{n:Nat}(h:n<2^(k.bits-1)):k.wrap (n:Int)=n:=by
 cases k<;>simp[IntKind.wrap,IntKind.bits,IntKind.signed]at h |- <;>omega
theorem aeY{k:IntKind}(hs:k.signed=false){n:Nat}(h:n<2^k.bits):k.wrap (n:Int)=n:=by
 cases k<;>simp[IntKind.wrap,IntKind.bits,IntKind.signed]at h hs |- <;>omega
section
variable{k:IntKind}{a b:Nat}
theorem aiu(ha:a<2^k.bits)(hb:b<2^k.bits):(BitVec.ofInt k.bits (a:Int)&&&BitVec.ofInt k.bits (b:Int)).toNat=a&&&b:=by
 rw[Nt,Nt,BitVec.toNat_and,BitVec.toNat_ofNat,BitVec.toNat_ofNat,F3 ha,F3 hb]
theorem aiT(ha:a<2^k.bits)(hb:b<2^k.bits):(BitVec.ofInt k.bits (a:Int)|||BitVec.ofInt k.bits (b:Int)).toNat=a|||b:=by
 rw[Nt,Nt,BitVec.toNat_or,BitVec.toNat_ofNat,BitVec.toNat_ofNat,F3 ha,F3 hb]
theorem EB(hs:k.signed=false)(ha:a<2^k.bits)(hb:b<2^k.bits):arith .and k a b=((a&&&b:Nat):Int):=by
 simp only[arith,aiu ha hb];exact aeY hs (Nat.and_lt_two_pow _ hb)
theorem CS(hs:k.signed=false)(ha:a<2^k.bits)(hb:b<2^k.bits):arith .or k a b=((a|||b:Nat):Int):=by
 simp only[arith,aiT ha hb];exact aeY hs (Nat.or_lt_two_pow ha hb)
theorem Ox(h:a<2^(k.bits-1)):a<2^k.bits:=nK h (I9 (by decide) (Nat.sub_le _ _))
theorem aeX(ha:a<2^(k.bits-1))(hb:b<2^(k.bits-1)):arith .and k a b=((a&&&b:Nat):Int):=by
 simp only[arith,aiu (Ox ha) (Ox hb)];exact af4 (Nat.and_lt_two_pow _ hb)
theorem afZ(ha:a<2^(k.bits-1))(hb:b<2^(k.bits-1)):arith .or k a b=((a|||b:Nat):Int):=by
 simp only[arith,aiT (Ox ha) (Ox hb)];exact af4 (Nat.or_lt_two_pow ha hb)
end
abbrev B(b:List UInt8):C:=.ls (ofBytes b)
def u8(x:Int):UInt8:=UInt8.ofNat (x%256).toNat
@[simp] theorem aDo:ofBytes []=[]:=rfl
@[simp] theorem bD(b:List UInt8):(ofBytes b).length=b.length:=by simp[ofBytes]
theorem wE(b:List UInt8)(n:Nat):(ofBytes b).take n=ofBytes (b.take n):=by simp[ofBytes]
theorem xL(b:List UInt8)(n:Nat):(ofBytes b).drop n=ofBytes (b.drop n):=by simp[ofBytes]
theorem AQ(a b:List UInt8):ofBytes a++ofBytes b=ofBytes (a++b):=by simp[ofBytes]
theorem RJ(n:Nat):List.replicate n (C.int 0)=ofBytes (List.replicate n 0):=by simp[ofBytes]
theorem JK(b:List UInt8)(i:Nat)(x:UInt8):(ofBytes b).set i (.int x.toNat)=ofBytes (b.set i x):=by
 simp[ofBytes,List.map_set]
theorem mR(b:List UInt8)(i:Nat):(ofBytes b).getD i default=.int (b.getD i 0).toNat:=by
 simp only[ofBytes,List.getD,ow];cases b[i]?<;>rfl
theorem QU(b m:List UInt8)(i:Nat):jr (ofBytes b) i (ofBytes m)=ofBytes (jr b i m):=by simp[jr,ofBytes]
@[simp] theorem Er(b:List UInt8):bytesOf (ofBytes b)=b:=by
 simp only[bytesOf,ofBytes,vW];conv=>rhs;rw[<-List.map_id b]
 apply Ca;intro x _;simp
@[simp] theorem aDp:bytesOf []=[]:=rfl
theorem arM(b:List UInt8)(i:Nat):(b.getD i 0).toNat<256:=UInt8.toNat_lt _
@[simp] theorem aDw(a b:List UInt8):yD .eql a b=decide (a=b):=by
 by_cases h:a=b
 .simp[yD,h]
 .simp[yD,h]
@[simp] theorem aDv(a b:List UInt8):yD .neq a b=decide (a≠b):=by
 by_cases h:a=b
 .simp[yD,h]
 .simp[yD,h]
abbrev HV(l:List Nat):List C:=l.map fun n:Nat=> .int (n:Int)
abbrev Ns(l:List Nat):C:=.ls (HV l)
theorem RI(l:List Nat)(i:Nat)(h:i<l.length):(HV l).getD i default=.int (l.getD i 0:Nat):=by
 simp[List.getD,h]
theorem atH(l:List Nat)(n:Nat):HV l++ [.int (n:Int)]=HV (l++ [n]):=by simp
theorem wH(v:Nat):IntKind.u8.wrap (v:Int)=((UInt8.ofNat v).toNat:Int):=by
 simp only[qK,zu];omega
theorem Oi{α:Type}{e:α->C}{P:α->Prop}:∀{l:List C},(∀x∈l,∃a,x=e a/\P a)->∃bs:List α,l=bs.map e/\∀a∈bs,P a
 | [],_=>⟨[],rfl,by simp⟩
 |x::l,h=>by
  obtain⟨a,h1,h2⟩:=h x (by simp);obtain⟨bs,h3,h4⟩:=Oi (l:=l) fun y hy=>h y (by simp[hy]);exact⟨a::bs,by simp[h1,h3],by simpa using⟨h2,h4⟩⟩
end Go.Vc
namespace Go.Vc
open Go
theorem sEV:(type_of% @aje)/\(type_of% @ajr)/\(type_of% @ah7)/\(type_of% @ajg)/\(type_of% @ajk)/\(type_of% @ahX)/\(type_of% @ah6)/\(type_of% @akt)/\(type_of% @aks)/\(type_of% @ah3)/\(type_of% @ajy)/\(type_of% @ajB)/\(type_of% @ahR)/\(type_of% @ajm)/\(type_of% @ajv)/\(type_of% @ajl)/\(type_of% @ajn)/\(type_of% @ajo)/\(type_of% @ajt)/\(type_of% @aju)/\(type_of% @ahW)/\(type_of% @ahT)/\(type_of% @ajz)/\(type_of% @ajj)/\(type_of% @ajq)/\(type_of% @ah5)/\(type_of% @ahQ)/\(type_of% @ajp)/\(type_of% @ahU)/\(type_of% @ajs)/\(type_of% @ahV)/\(type_of% @ajf)/\(type_of% @ahS)/\(type_of% @ajA)/\(type_of% @ajh)/\(type_of% @aji)/\(type_of% @afL)/\(type_of% @agQ)/\(type_of% @agR)/\(type_of% @ajx)/\(type_of% @ahZ)/\(type_of% @ah2)/\(type_of% @ajw)/\(type_of% @afM)/\(type_of% @ah1)/\(type_of% @ah0)/\(type_of% @ahY)/\(type_of% @agS)/\(type_of% @ah4)/\(type_of% @ajD)/\(type_of% @ah9):=⟨@aje, @ajr, @ah7, @ajg, @ajk, @ahX, @ah6, @akt, @aks, @ah3, @ajy, @ajB, @ahR, @ajm, @ajv, @ajl, @ajn, @ajo, @ajt, @aju, @ahW, @ahT, @ajz, @ajj, @ajq, @ah5, @ahQ, @ajp, @ahU, @ajs, @ahV, @ajf, @ahS, @ajA, @ajh, @aji, @afL, @agQ, @agR, @ajx, @ahZ, @ah2, @ajw, @afM, @ah1, @ah0, @ahY, @agS, @ah4, @ajD, @ah9⟩
theorem akF:(type_of% @agU)/\(type_of% @agV)/\(type_of% @agW)/\(type_of% @ah8)/\(type_of% @List.map_cons.{0,0})/\(type_of% @List.map_nil.{0,0})/\(type_of% @List.zip_cons_cons.{0,0})/\(type_of% @List.zip_nil_right.{0,0})/\(type_of% @List.zip_nil_left.{0,0}):=⟨@agU, @agV, @agW, @ah8, @List.map_cons.{0,0}, @List.map_nil.{0,0}, @List.zip_cons_cons.{0,0}, @List.zip_nil_right.{0,0}, @List.zip_nil_left.{0,0}⟩
theorem akE:(type_of% @dV)/\(type_of% @lI)/\(type_of% @Pf)/\(type_of% @gU)/\(type_of% @iP)/\(type_of% @jE)/\(type_of% @aef)/\(type_of% @ae3)/\(type_of% @aee)/\(type_of% @ae2)/\(type_of% @ahI)/\(type_of% @Oa)/\(type_of% @ai2)/\(type_of% @ahn):=⟨@dV, @lI, @Pf, @gU, @iP, @jE, @aef, @ae3, @aee, @ae2, @ahI, @Oa, @ai2, @ahn⟩
theorem sVC:(type_of% @VC.ajN)/\(type_of% @VC.ajM)/\(type_of% @VC.akx)/\(type_of% @VC.akw)/\(type_of% @VC.KY)/\(type_of% @VC.aiA)/\(type_of% @VC.aiz)/\(type_of% @VC.aiy):=⟨@VC.ajN, @VC.ajM, @VC.akx, @VC.akw, @VC.KY, @VC.aiA, @VC.aiz, @VC.aiy⟩
theorem sBO:(type_of% @agq)/\(type_of% @afp)/\(type_of% @orT)/\(type_of% @orF)/\(type_of% @akW)/\(type_of% @akX)/\(type_of% @akG)/\(type_of% @akH)/\(type_of% @nnE)/\(type_of% @decide_eq_true_eq)/\(type_of% @decide_eq_false_iff_not)/\(type_of% @true_implies)/\(type_of% @and_true)/\(type_of% @true_and)/\(type_of% @ai0)/\(type_of% @ai1)/\(type_of% @gt_iff_lt.{0})/\(type_of% @ge_iff_le.{0})/\(type_of% @Int.not_lt)/\(type_of% @Int.not_le):=⟨@agq, @afp, @orT, @orF, @akW, @akX, @akG, @akH, @nnE, @decide_eq_true_eq, @decide_eq_false_iff_not, @true_implies, @and_true, @true_and, @ai0, @ai1, @gt_iff_lt.{0}, @ge_iff_le.{0}, @Int.not_lt, @Int.not_le⟩
theorem kM:type_of%sEV/\type_of%akF/\type_of%akE/\type_of%sBO:=⟨sEV,akF,akE,sBO⟩
theorem aJ:type_of%sVC/\type_of%kM:=⟨sVC,kM⟩
end Go.Vc
namespace Go.Plain
def be(l:List UInt8):Nat:=l.foldl (fun v x=>v*256+x.toNat) 0
def fq:Nat->Nat->List UInt8
 |0,_=> []
 |n+1,v=>fq n (v/256)++ [UInt8.ofNat v]
theorem ayJ{α:Type}{P:List α->Prop}(nil:P [])(snoc:∀l x,P l->P (l++ [x]))(l:List α):P l:=by
 have h:∀(n:Nat) (l:List α),l.length=n->P l:=by
  intro n;induction n with
  |zero=>intro l hl;rw[List.length_eq_zero_iff.1 hl];exact nil
  |succ n ih=>
   intro l hl;rcases List.eq_nil_or_concat l with rfl|⟨m,x,rfl⟩
   .simp at hl
   .rw[List.concat_eq_append]at hl |-;exact snoc m x (ih m (by simpa using hl))
 exact h _ l rfl
@[simp] theorem aDx:be []=0:=rfl
@[simp] theorem UK(l:List UInt8)(x:UInt8):be (l++ [x])=be l*256+x.toNat:=by simp[be]
theorem VX(l:List UInt8):be l<256^l.length:=by
 induction l using ayJ with
 |nil=>simp
 |snoc l x ih=>
  have:=x.toNat_lt;simp only[UK,List.length_append,List.length_singleton,Nat.pow_succ];omega
@[simp] theorem y9:∀(n v:Nat),(fq n v).length=n
 |0,_=>rfl
 |n+1,v=>by simp[fq,y9 n]
theorem ahi:∀(n:Nat) (l:List UInt8),l.length=n->fq n (be l)=l
 |0,l,h=>by rw[List.length_eq_zero_iff.1 h];rfl
 |n+1,l,h=>by
  rcases List.eq_nil_or_concat l with rfl|⟨m,x,rfl⟩
  .simp at h
  simp only[List.concat_eq_append]at h |-;have hx:=x.toNat_lt;have h1:(be m*256+x.toNat)/256=be m:=by omega
  simp only[fq,UK,h1];rw[ahi n m (by simpa using h)];congr 2
  apply UInt8.toNat_inj.1;simp only[UInt8.toNat_ofNat'];omega
theorem ae4:∀(n v:Nat),fq (n+1) v=UInt8.ofNat (v/256^n)::fq n v
 |0,v=>by simp[fq]
 |n+1,v=>by
  rw[fq,ae4 n,fq];simp only[List.cons_append,Nat.pow_succ,Nat.div_div_eq_div_mul];rw[Nat.mul_comm]
theorem Bv(a k b:Nat)(h:b<2^k):a*2^k|||b=a*2^k+b:=by
 rw[<-Nat.shiftLeft_eq,Nat.shiftLeft_add_eq_or_of_lt h]
theorem as0(l:List UInt8)(i:Nat)(h:i<l.length):be (l.take (i+1))=be (l.take i)*256+(l.getD i 0).toNat:=by
 rw[List.take_succ_eq_append_getElem h,UK];simp[List.getD,h]
theorem aeW(l:List UInt8)(i:Nat):be (l.take i)<256^i:=by
 refine Nat.lt_of_lt_of_le (VX _) (Nat.pow_le_pow_right (by decide) ?_);simp;omega
theorem aAN{l:List UInt8}(h:l.length<=8):be l<18446744073709551616:=Nat.lt_of_lt_of_le (VX l) (Nat.le_trans (Nat.pow_le_pow_right (by decide) h) (by decide))
theorem take_drop(l:List UInt8)(a n:Nat):(l.take (a+n)).drop a=(l.drop a).take n:=by
 rw[List.drop_take,Nat.add_sub_cancel_left]
def Qn(n:Nat)(v:Nat):Int:=if v<2^(8*n-1)then v else(v:Int)-2^(8*n)
end Go.Plain
namespace Go.Plain
structure Hd where
 pad:Bool
 ext:Bool
 mark:Bool
 typ:Int
 seq:Nat
 time:Nat
 bZ:Nat
 eU:List Nat
 deriving DecidableEq
def Hd.zero:Hd:=⟨false,false,false,0,0,0,0,[]⟩
def Hd.ok(h:Hd):Prop:=h.seq<65536/\h.time<4294967296/\h.bZ<4294967296/\∀c∈h.eU,c<4294967296
def Hd.right(h:Hd):Prop:=0<=h.typ/\h.typ<128/\h.eU.length<16
instance(h:Hd):Decidable h.right:=by unfold Hd.right;exact inferInstance
def Hd.first(h:Hd):Nat:=128+32*h.pad.toNat+16*h.ext.toNat+h.eU.length
def Hd.second(h:Hd):Nat:=128*h.mark.toNat+h.typ.toNat
def words(l:List Nat):List UInt8:=(l.map (fq 4)).flatten
def Hd.bytes(h:Hd):List UInt8:=UInt8.ofNat h.first::UInt8.ofNat h.second::(fq 2 h.seq++(fq 4 h.time++(fq 4 h.bZ++words h.eU)))
def at_(b:List UInt8)(i:Nat):Nat:=(b.getD i 0).toNat
def num(b:List UInt8)(i n:Nat):Nat:=be ((b.drop i).take n)
def Hd.of(b:List UInt8):Hd:=
 {pad:=decide (at_ b 0/32%2=1),ext:=decide (at_ b 0/16%2=1),mark:=decide (128<=at_ b 1),typ:=((at_ b 1%128:Nat):Int),seq:=num b 2 2,time:=num b 4 4,bZ:=num b 8 4,
  eU:=(List.range (at_ b 0%16)).map fun i=>num b (12+4*i) 4}
def qb(b:List UInt8):Int:=if b.length<12 then 2 else if at_ b 0/64≠2 then 3 else if b.length<12+4*(at_ b 0%16)then 2 else 0
def hdN(b:List UInt8):Nat:=if qb b=0 then 12+4*(at_ b 0%16)else 0
def Js(b:List UInt8):Hd:=if qb b=0 then Hd.of b else Hd.zero
theorem N7{b:List UInt8}:qb b=0↔12<=b.length/\at_ b 0/64=2/\12+4*(at_ b 0%16)<=b.length:=by
 unfold qb;split
 .simp;omega
 split
 .simp;omega
 split<;>simp<;>omega
theorem ML(l:List Nat):(words l).length=4*l.length:=by
 induction l with
 |nil=>rfl
 |cons x l ih=>simp only[words,List.map_cons,List.flatten_cons,List.length_append,y9,List.length_cons]at ih |-;omega
theorem Hd.MP(h:Hd):h.bytes.length=12+4*h.eU.length:=by
 simp[Hd.bytes,ML];omega
theorem gN(b:List UInt8)(i:Nat):at_ b i<256:=UInt8.toNat_lt _
theorem qL(b:List UInt8)(i n:Nat):num b i n<256^n:=aeW _ _
theorem TH(a b:List UInt8)(i n:Nat):num (a++b) (a.length+i) n=num b i n:=by
 simp only[num];rw[<-List.drop_drop,List.drop_left]
theorem HY{b:List UInt8}{i n:Nat}(h:i+n<=b.length):fq n (num b i n)=(b.drop i).take n:=by
 apply ahi;simp;omega
theorem auM(b:List UInt8)(h:12<=b.length):b=UInt8.ofNat (at_ b 0)::UInt8.ofNat (at_ b 1)::b.drop 2:=by
 match b,h with
 |x::y::l,_=>
  simp[at_]
theorem ad9(b:List UInt8):∀n:Nat,4*n<=b.length->words ((List.range n).map fun i=>num b (4*i) 4)=b.take (4*n)
 |0,_=>by simp[words]
 |n+1,h=>by
  rw[List.range_succ,List.map_append];have e:words (((List.range n).map fun i=>num b (4*i) 4)++ [num b (4*n) 4])=words ((List.range n).map fun i=>num b (4*i) 4)++fq 4 (num b (4*n) 4):=by
   simp[words]
  simp only[List.map_cons,List.map_nil];rw[e,ad9 b n (by omega),HY (by omega),Nat.mul_succ,List.take_add]
theorem Hd.same(b:List UInt8)(h:qb b=0):(Hd.of b).right/\(Hd.of b).ok/\(Hd.of b).eU.length=at_ b 0%16/\(Hd.of b).bytes=b.take (12+4*(at_ b 0%16)):=by
 have hz:=N7.1 h;have h0:=gN b 0;have h1:=gN b 1;have hl:(Hd.of b).eU.length=at_ b 0%16:=by simp[Hd.of]
 refine⟨?_,?_,hl,?_⟩
 .have e:(Hd.of b).typ=((at_ b 1%128:Nat):Int):=rfl;refine⟨by omega,by omega,by rw[hl];omega⟩
 .refine ⟨qL _ _ 2,qL _ _ 4,qL _ _ 4,?_⟩;intro c hc;simp only[Hd.of,List.mem_map]at hc;obtain⟨i,_,rfl⟩:=hc;exact qL _ _ 4
 have f1:(Hd.of b).first=at_ b 0:=by
  simp only[Hd.first,hl];have e1:(Hd.of b).pad=decide (at_ b 0/32%2=1):=rfl;have e2:(Hd.of b).ext=decide (at_ b 0/16%2=1):=rfl;rw[e1,e2];by_cases q1:at_ b 0/32%2=1<;>by_cases q2:at_ b 0/16%2=1<;>simp[q1,q2]<;>omega
 have f2:(Hd.of b).second=at_ b 1:=by
  simp only[Hd.second];have e1:(Hd.of b).mark=decide (128<=at_ b 1):=rfl;have e2:(Hd.of b).typ=((at_ b 1%128:Nat):Int):=rfl;rw[e1,e2];by_cases q1:128<=at_ b 1<;>simp[q1]<;>omega
 have g1:fq 2 (Hd.of b).seq=(b.drop 2).take 2:=HY (by omega);have g2:fq 4 (Hd.of b).time=(b.drop 4).take 4:=HY (by omega);have g3:fq 4 (Hd.of b).bZ=(b.drop 8).take 4:=HY (by omega);have g4:words (Hd.of b).eU=(b.drop 12).take (4*(at_ b 0%16)):=by
  rw[<-ad9 (b.drop 12) (at_ b 0%16) (by simp;omega)];congr 1
  simp only[Hd.of];apply List.map_congr_left;intro i _;simp[num,List.drop_drop]
 rw[Hd.bytes,f1,f2,g1,g2,g3,g4];have aDN:∀(n m:Nat) (l:List UInt8),(l.drop n).take m++(l.drop (n+m))=l.drop n:=by
  intro n m l;rw[<-List.drop_drop,List.take_append_drop]
 have e5:(12+4*(at_ b 0%16))=2+(2+(4+(4+4*(at_ b 0%16)))):=by omega
 generalize hm:4*(at_ b 0%16)=m at*;have hb:=auM b hz.1;have e6:b.take (2+(2+(4+(4+m))))=UInt8.ofNat (at_ b 0)::UInt8.ofNat (at_ b 1)::(b.drop 2).take (2+(4+(4+m))):=by
  conv=>lhs;rw[hb]
  rw[show 2+(2+(4+(4+m)))=(2+(4+(4+m)))+1+1 by omega,List.take_succ_cons,List.take_succ_cons]
 rw[e5,e6];have tk:∀(n m k:Nat),((b.drop k).take (n+m))=(b.drop k).take n++(b.drop (k+n)).take m:=by
  intro n m k;rw[List.take_add,List.drop_drop]
 rw[tk 2 _ 2,tk 4 _ 4,tk 4 _ 8]
end Go.Plain
namespace Go.Plain
structure El where
 id:Int
 data:List UInt8
deriving DecidableEq
def El.zero:El:=⟨0,[]⟩
def bY(l:List El):List Int:=l.map (·.id)
def BQ(l:List El)(j:Nat):Prop:=1<=(l.getD j El.zero).id/\(l.getD j El.zero).id<=255/\(l.getD j El.zero).data.length<=255/\(l.getD j El.zero).id∉bY (l.take j)
instance(l:List El)(j:Nat):Decidable (BQ l j):=by unfold BQ;exact inferInstance
def lH(l:List El):Prop:=∀j,j<l.length->BQ l j
instance(l:List El):Decidable (lH l):=by unfold lH;exact inferInstance
structure Sp where
 id:Nat
 pos:Nat
 size:Nat
deriving DecidableEq
def Sp.zero:Sp:=⟨0,0,0⟩
def dL(aD:Bool)(b:List UInt8)(p:Nat):Sp:=if aD then⟨at_ b p/16,p+1,at_ b p%16+1⟩else⟨at_ b p,p+2,at_ b (p+1)⟩
def oO(l:List Sp):List Nat:=l.map (·.id)
theorem Kg(aD:Bool)(b:List UInt8)(p:Nat):p<(dL aD b p).pos+(dL aD b p).size:=by
 unfold dL;split<;>simp only<;>omega
def wk(aD:Bool)(b:List UInt8)(p:Nat)(out:List Sp):List Sp×Int:=
 if h:p<b.length then
  if at_ b p=0 then wk aD b (p+1) out
  else if aD=true/\(at_ b p/16=15\/at_ b p/16=0)then(out,0)
  else if aD=false/\b.length<=p+1 then([],4)
  else if b.length<(dL aD b p).pos+(dL aD b p).size then([],4)
  else if(dL aD b p).id∈oO out then([],6)
  else wk aD b ((dL aD b p).pos+(dL aD b p).size) (out++ [dL aD b p])
 else(out,0)
termination_by b.length-p
decreasing_by
 .omega
 .have:=Kg aD b p;omega
theorem Bq{aD:Bool}{b:List UInt8}{p:Nat}{out:List Sp}(h:¬p<b.length):wk aD b p out=(out,0):=by rw[wk,dif_neg h]
theorem He{aD:Bool}{b:List UInt8}{p:Nat}{out:List Sp}(h:p<b.length)(h0:at_ b p=0):wk aD b p out=wk aD b (p+1) out:=by rw[wk,dif_pos h,if_pos h0]
theorem Kr{aD:Bool}{b:List UInt8}{p:Nat}{out:List Sp}(h:p<b.length)(h0:¬at_ b p=0)(h1:aD=true/\(at_ b p/16=15\/at_ b p/16=0)):wk aD b p out=(out,0):=by rw[wk,dif_pos h,if_neg h0,if_pos h1]
theorem NP{aD:Bool}{b:List UInt8}{p:Nat}{out:List Sp}(h:p<b.length)(h0:¬at_ b p=0)(h1:¬(aD=true/\(at_ b p/16=15\/at_ b p/16=0)))(h2:aD=false/\b.length<=p+1):wk aD b p out=([],4):=by
 rw[wk,dif_pos h,if_neg h0,if_neg h1,if_pos h2]
theorem Kt{aD:Bool}{b:List UInt8}{p:Nat}{out:List Sp}(h:p<b.length)(h0:¬at_ b p=0)(h1:¬(aD=true/\(at_ b p/16=15\/at_ b p/16=0)))(h2:¬(aD=false/\b.length<=p+1))
  (h3:b.length<(dL aD b p).pos+(dL aD b p).size):wk aD b p out=([],4):=by
 rw[wk,dif_pos h,if_neg h0,if_neg h1,if_neg h2,if_pos h3]
theorem Ke{aD:Bool}{b:List UInt8}{p:Nat}{out:List Sp}(h:p<b.length)(h0:¬at_ b p=0)(h1:¬(aD=true/\(at_ b p/16=15\/at_ b p/16=0)))(h2:¬(aD=false/\b.length<=p+1))
  (h3:¬b.length<(dL aD b p).pos+(dL aD b p).size) (h4:(dL aD b p).id∈oO out):wk aD b p out=([],6):=by
 rw[wk,dif_pos h,if_neg h0,if_neg h1,if_neg h2,if_neg h3,if_pos h4]
theorem wk_step{aD:Bool}{b:List UInt8}{p:Nat}{out:List Sp}(h:p<b.length)(h0:¬at_ b p=0)(h1:¬(aD=true/\(at_ b p/16=15\/at_ b p/16=0)))(h2:¬(aD=false/\b.length<=p+1))
  (h3:¬b.length<(dL aD b p).pos+(dL aD b p).size) (h4:¬(dL aD b p).id∈oO out):wk aD b p out=wk aD b ((dL aD b p).pos+(dL aD b p).size) (out++ [dL aD b p]):=by
 rw[wk,dif_pos h,if_neg h0,if_neg h1,if_neg h2,if_neg h3,if_neg h4]
end Go.Plain
namespace Go.Plain
def spots(aQ:Nat)(b:List UInt8):List Sp×Int:=
 if aQ=48862 then wk true b 0 []else if aQ/16=256 then wk false b 0 []else([],6)
def jP(b:List UInt8)(s:Sp):El:=⟨(s.id:Int),(b.drop s.pos).take s.size⟩
def uF(aQ:Nat)(b:List UInt8):List El:=(spots aQ b).1.map (jP b)
def nG(aD:Bool)(e:El):Prop:=if aD then 1<=e.id/\e.id<=14/\1<=e.data.length/\e.data.length<=16 else 1<=e.id/\e.id<=255/\e.data.length<=255
instance(aD:Bool)(e:El):Decidable (nG aD e):=by unfold nG;exact inferInstance
def zB(l:List El):Bool:=decide (∀e∈l,nG true e)
def xQ(l:List El):Nat:=if lH l then(if zB l then 48862 else 4096)else 0
def enc(aD:Bool)(e:El):List UInt8:=if aD then UInt8.ofNat (16*e.id.toNat+e.data.length-1)::e.data else UInt8.ofNat e.id.toNat::UInt8.ofNat e.data.length::e.data
def vN(aD:Bool)(l:List El):List UInt8:=l.flatMap (enc aD)
def yh(b:List UInt8):List UInt8:=b++List.replicate ((4-b.length%4)%4) 0
def Bp(l:List El):List UInt8:=yh (vN (zB l) l)
def ahead(aD:Bool):Nat:=if aD then 1 else 2
theorem Ni(aD:Bool)(e:El):(enc aD e).length=ahead aD+e.data.length:=by
 unfold enc ahead;cases aD<;>simp<;>omega
theorem as1{a b:List UInt8}(i:Nat):at_ (a++b) (a.length+i)=at_ b i:=by
 unfold at_;rw[List.getD_eq_getElem?_getD,List.getD_eq_getElem?_getD,List.getElem?_append_right (by omega)];congr 3;omega
theorem ad4{a b:List UInt8}:at_ (a++b) a.length=at_ b 0:=as1 0
theorem Sj{e:El}(h:nG true e):1<=e.id/\e.id<=14/\1<=e.data.length/\e.data.length<=16:=by simpa[nG]using h
theorem auf{e:El}(h:nG false e):1<=e.id/\e.id<=255/\e.data.length<=255:=by simpa[nG]using h
theorem af6(aD:Bool)(r:List UInt8)(out:List Sp):∀(n:Nat) (p:List UInt8),wk aD (p++(List.replicate n 0++r)) p.length out=wk aD (p++(List.replicate n 0++r)) (p.length+n) out
 |0,_=>rfl
 |n+1,p=>by
  have h0:at_ (p++(List.replicate (n+1) 0++r)) p.length=0:=by
   rw[ad4,List.replicate_succ];rfl
  rw[He (by simp;omega) h0];have e:p++(List.replicate (n+1) 0++r)=(p++ [0])++(List.replicate n 0++r):=by simp[List.replicate_succ]
  have ih:=af6 aD r out n (p++ [0]);rw[e];rw[show p.length+1=(p++ [0]).length by simp];rw[ih];congr 1
  simp;omega
def lay(aD:Bool)(l:List (Nat×El)):List UInt8:=l.flatMap fun x=>List.replicate x.1 0++enc aD x.2
def rC(aD:Bool):Nat->List (Nat×El)->List Sp
 |_,[]=> []
 |p,(n,e)::l=>⟨e.id.toNat,p+n+ahead aD,e.data.length⟩::rC aD (p+n+(enc aD e).length) l
theorem ahH(aD:Bool):∀(l:List (Nat×El)) (p r:List UInt8),(∀x∈l,nG aD x.2)->(rC aD p.length l).map (jP (p++(lay aD l++r)))=l.map (·.2)
 | [],_,_,_=>rfl
 |(n,e)::l,p,r,hf=>by
  have e1:p++(lay aD ((n,e)::l)++r)=(p++List.replicate n 0++enc aD e)++(lay aD l++r):=by simp[lay]
  have ih:=ahH aD l (p++List.replicate n 0++enc aD e) r (fun x hx=>hf x (by simp[hx]));have hid:1<=e.id:=by
   have:=hf (n,e) (by simp);revert this;cases aD<;>simp[nG]<;>omega
  rw[rC,List.map_cons,List.map_cons,e1];have hlen:p.length+n+(enc aD e).length=(p++List.replicate n (0:UInt8)++enc aD e).length:=by simp;omega
  rw[hlen,ih];congr 1
  unfold jP;have e2:(p++List.replicate n 0++enc aD e)++(lay aD l++r)=(p++List.replicate n 0++(enc aD e).take (ahead aD))++(e.data++(lay aD l++r)):=by
   have:enc aD e=(enc aD e).take (ahead aD)++e.data:=by unfold enc ahead;cases aD<;>simp
   conv=>lhs;rw[this]
   simp
  have hl:(p++List.replicate n 0++(enc aD e).take (ahead aD)).length=p.length+n+ahead aD:=by
   simp[Ni];omega
  rw[e2,<-hl,List.drop_left,List.take_left];cases e;simp only[El.mk.injEq,and_true];simp only at hid;omega
theorem MO{l:List El}(h:lH l):(∀e∈l,nG (zB l) e)/\(l.map fun e=>e.id.toNat).Nodup:=by
 have hin:∀e∈l,1<=e.id/\e.id<=255/\e.data.length<=255:=by
  intro e he;obtain⟨j,hj,rfl⟩:=List.getElem_of_mem he;have:=h j hj;unfold BQ at this;rw[List.getD_eq_getElem?_getD,List.getElem?_eq_getElem hj]at this;exact⟨this.1,this.2.1,this.2.2.1⟩
 refine⟨fun e he=>?_,?_⟩
 .by_cases hn:zB l=true
  .rw[hn];exact(of_decide_eq_true hn) e he
  .rw[Bool.not_eq_true]at hn;rw[hn];simpa[nG]using hin e he
 rw[List.nodup_iff_pairwise_ne,List.pairwise_iff_getElem];intro i j hi hj hij he;simp only[List.getElem_map,List.length_map]at he hi hj;have:=(h j hj).2.2.2;apply this;rw[List.getD_eq_getElem?_getD,List.getElem?_eq_getElem hj];simp only[Option.getD_some,bY,List.mem_map];refine⟨l[i],?_,?_⟩
 .rw[List.mem_take_iff_getElem];exact⟨i,by omega,rfl⟩
 have h1:=hin l[i] (List.getElem_mem hi);have h2:=hin l[j] (List.getElem_mem hj);omega
theorem aqC{l:List El}(aD:Bool)(h1:∀e∈l,nG aD e)(h2:(l.map fun e=>e.id.toNat).Nodup):lH l:=by
 intro j hj;have hin:∀e∈l,1<=e.id/\e.id<=255/\e.data.length<=255:=by
  intro e he;have:=h1 e he;revert this;cases aD<;>simp[nG]<;>omega
 have h3:=hin l[j] (List.getElem_mem hj);unfold BQ;rw[List.getD_eq_getElem?_getD,List.getElem?_eq_getElem hj];refine⟨h3.1,h3.2.1,h3.2.2,?_⟩;intro hm;simp only[Option.getD_some,bY,List.mem_map]at hm;obtain⟨e,he,heq⟩:=hm;rw[List.mem_take_iff_getElem]at he;obtain⟨i,hi,rfl⟩:=he;rw[List.nodup_iff_pairwise_ne,List.pairwise_iff_getElem]at h2;refine h2 i j (by simp;omega) (by simpa using hj) (by omega) ?_;simp[heq]
def KJ(aD:Bool):Nat:=if aD then 48862 else 4096
theorem asY{l:List El}(h:lH l):xQ l=KJ (zB l):=by unfold xQ KJ;rw[if_pos h]
def Fb(aD:Bool)(q:Nat):Prop:=if aD then q=48862 else q/16=256
def U3(aD:Bool)(b:List UInt8)(s:Sp):Prop:=nG aD (jP b s)
theorem ays(aD:Bool)(b:List UInt8):∀(n p:Nat) (out:List Sp),b.length-p<=n->(∀s∈out,U3 aD b s/\s.pos+s.size<=b.length)->(oO out).Nodup->
  (∀s∈(wk aD b p out).1,U3 aD b s/\s.pos+s.size<=b.length)/\(oO (wk aD b p out).1).Nodup/\((wk aD b p out).2=0\/(wk aD b p out).1=[]/\((wk aD b p out).2=4\/(wk aD b p out).2=6)):=by
 intro n;induction n with
 |zero=>
  intro p out hn h1 h2;rw[Bq (by omega)];exact⟨h1,h2,.inl rfl⟩
 |succ n ih=>
  intro p out hn h1 h2;by_cases hp:p<b.length
  .by_cases h0:at_ b p=0
   .rw[He hp h0];exact ih _ _ (by omega) h1 h2
   .by_cases hs:aD=true/\(at_ b p/16=15\/at_ b p/16=0)
    .rw[Kr hp h0 hs];exact⟨h1,h2,.inl rfl⟩
    .by_cases hw:aD=false/\b.length<=p+1
     .rw[NP hp h0 hs hw];exact⟨by simp,by simp[oO],.inr ⟨rfl,.inl rfl⟩⟩
     .by_cases hl:b.length<(dL aD b p).pos+(dL aD b p).size
      .rw[Kt hp h0 hs hw hl];exact⟨by simp,by simp[oO],.inr ⟨rfl,.inl rfl⟩⟩
      .by_cases ht:(dL aD b p).id∈oO out
       .rw[Ke hp h0 hs hw hl ht];exact⟨by simp,by simp[oO],.inr ⟨rfl,.inr rfl⟩⟩
       .rw[wk_step hp h0 hs hw hl ht];have LV:=Kg aD b p;refine ih _ _ (by omega) ?_ ?_
        .intro s hs2;rcases List.mem_append.1 hs2 with hs2|hs2
         .exact h1 s hs2
         obtain rfl:s=dL aD b p:=by simpa using hs2
         refine⟨?_,by omega⟩;have hx:=gN b p;have hy:=gN b (p+1);unfold U3 nG jP;cases aD with
         |true=>
          simp only[dL,if_true,List.length_take,List.length_drop]at hl |-;simp only[true_and,not_or]at hs;omega
         |false=>
          simp only[dL,Bool.false_eq_true,if_false,List.length_take,List.length_drop]at hl |-;omega
        .simp only[oO,List.map_append,List.map_cons,List.map_nil];rw[List.nodup_append];refine⟨h2,by simp,?_⟩;intro a ha c hc;simp only[List.mem_singleton]at hc;subst hc;intro e;subst e;exact ht ha
  rw[Bq hp];exact⟨h1,h2,.inl rfl⟩
theorem adt(q:Nat)(b:List UInt8):(∃aD,Fb aD q/\spots q b=wk aD b 0 [])\/spots q b=([],6):=by
 unfold spots;split
 next h=>exact .inl ⟨true,by simp[Fb,h],rfl⟩
 split
 next h=>exact .inl ⟨false,by simp[Fb,h],rfl⟩
 exact .inr rfl
theorem AX(q:Nat)(b:List UInt8):(∀s∈(spots q b).1,s.pos+s.size<=b.length)/\((spots q b).2=0\/(spots q b).1=[]/\((spots q b).2=4\/(spots q b).2=6))/\lH (uF q b):=by
 rcases adt q b with⟨aD,_,h⟩|h
 .have:=ays aD b b.length 0 [] (by omega) (by simp) (by simp[oO]);unfold uF;rw[h];refine⟨fun s hs=>(this.1 s hs).2,this.2.2,?_⟩;refine aqC aD ?_ ?_
  .intro e he;obtain⟨s,hs,rfl⟩:=List.mem_map.1 he;exact(this.1 s hs).1
  .have h2:=this.2.1;have e:(List.map (fun e=>e.id.toNat) (List.map (jP b) (wk aD b 0 []).1))=oO (wk aD b 0 []).1:=by
    simp only[List.map_map,oO];apply List.map_congr_left;intro s _;simp[jP]
   rw[e];exact h2
 unfold uF;rw[h];exact⟨by simp,.inr ⟨rfl,.inr rfl⟩,by intro j hj;simp at hj⟩
end Go.Plain
namespace Go.Plain
def Hy(aD:Bool)(r:List UInt8):Prop:=∀(q:List UInt8) (out:List Sp),wk aD (q++r) q.length out=(out,0)
theorem agh(aD:Bool):Hy aD []:=fun q out=>Bq (by simp)
theorem avU{aD:Bool}{r:List UInt8}(h:Hy aD r):Hy aD (0::r):=fun q out=>by
 have:=af6 aD r out 1 q;simp only[List.replicate_one,List.singleton_append]at this;rw[this];have h2:=h (q++ [0]) out;simpa using h2
theorem axd{x:UInt8}(r:List UInt8)(h0:x.toNat≠0)(h:x.toNat/16=15\/x.toNat/16=0):Hy true (x::r):=fun q out=>by
 have a0:at_ (q++x::r) q.length=x.toNat:=by rw[ad4];rfl
 exact Kr (by simp) (by rw[a0];exact h0) ⟨rfl,by rw[a0];exact h⟩
theorem UO(b:List UInt8)(p i:Nat):at_ (b.drop p) i=at_ b (p+i):=by
 simp only[at_,List.getD_eq_getElem?_getD,List.getElem?_drop]
theorem Es{b:List UInt8}{p:Nat}(h:p<b.length):b.drop p=UInt8.ofNat (at_ b p)::b.drop (p+1):=by
 rw[List.drop_eq_getElem_cons h];simp[at_,List.getD,h]
theorem ax3{aD:Bool}{b:List UInt8}{p:Nat}(h:p<b.length)(h0:¬at_ b p=0)(h1:¬(aD=true/\(at_ b p/16=15\/at_ b p/16=0)))(h2:¬(aD=false/\b.length<=p+1))
  (h3:¬b.length<(dL aD b p).pos+(dL aD b p).size):
  nG aD (jP b (dL aD b p))/\b.drop p=enc aD (jP b (dL aD b p))++b.drop ((dL aD b p).pos+(dL aD b p).size)/\dL aD b p=⟨(jP b (dL aD b p)).id.toNat,p+ahead aD,(jP b (dL aD b p)).data.length⟩:=by
 have hx:=gN b p;have hy:=gN b (p+1);have hd:(b.drop (dL aD b p).pos).take (dL aD b p).size++b.drop ((dL aD b p).pos+(dL aD b p).size)=b.drop (dL aD b p).pos:=by rw[<-List.drop_drop,List.take_append_drop]
 have hl:((b.drop (dL aD b p).pos).take (dL aD b p).size).length=(dL aD b p).size:=by simp;omega
 cases aD with
 |true=>
  simp only[true_and,not_or]at h1;have e1:(dL true b p).id=at_ b p/16:=rfl;have e2:(dL true b p).pos=p+1:=rfl;have e3:(dL true b p).size=at_ b p%16+1:=rfl;refine⟨?_,?_,?_⟩
  .unfold nG jP;simp only[if_true,hl];omega
  .unfold enc jP;simp only[if_true,hl];rw[List.cons_append,hd,e2,Es h];congr 2
   rw[e1,e3];omega
  unfold jP;simp only[hl,Int.toNat_natCast];rfl
 |false=>
  have h2:p+1<b.length:=by simpa using h2
  have e1:(dL false b p).id=at_ b p:=rfl;have e2:(dL false b p).pos=p+2:=rfl;have e3:(dL false b p).size=at_ b (p+1):=rfl;refine⟨?_,?_,?_⟩
  .unfold nG jP;simp only[Bool.false_eq_true,if_false,hl];omega
  .unfold enc jP;simp only[Bool.false_eq_true,if_false,hl];rw[List.cons_append,List.cons_append,hd,e2,Es h,Es h2];congr 2
  unfold jP;simp only[hl,Int.toNat_natCast];rfl
theorem avI(aD:Bool)(b:List UInt8):∀(n p:Nat) (out S:List Sp),b.length-p<=n->p<=b.length->wk aD b p out=(S,0)->
  ∃l r,b.drop p=lay aD l++r/\S=out++rC aD p l/\(∀x∈l,nG aD x.2)/\Hy aD r:=by
 intro n;induction n with
 |zero=>
  intro p out S hn hp h;rw[Bq (by omega)]at h;cases h;refine⟨[],[],?_,by simp[rC],by simp,agh aD⟩;rw[List.drop_of_length_le (by omega)];rfl
 |succ n ih=>
  intro p out S hn hp h;by_cases hlt:p<b.length
  .by_cases h0:at_ b p=0
   .rw[He hlt h0]at h;obtain⟨l,r,e1,e2,e3,e4⟩:=ih (p+1) out S (by omega) (by omega) h;have hd:=Es hlt;rw[h0,e1]at hd;cases l with
    |nil=>exact⟨[],0::r,by simpa[lay]using hd,by simpa[rC]using e2,by simp,avU e4⟩
    |cons x l=>
     obtain⟨m,e⟩:=x;refine⟨(m+1,e)::l,r,?_,?_,?_,e4⟩
     .rw[hd];simp[lay,List.replicate_succ]
     .rw[e2];simp only[rC];rw[show p+1+m=p+(m+1) by omega]
     intro x hx;rcases List.mem_cons.1 hx with rfl|hx
     .exact e3 (m,e) (by simp)
     exact e3 x (by simp[hx])
   .by_cases hs:aD=true/\(at_ b p/16=15\/at_ b p/16=0)
    .rw[Kr hlt h0 hs]at h;cases h;obtain⟨rfl,hs⟩:=hs;refine⟨[],b.drop p,by simp[lay],by simp[rC],by simp,?_⟩;rw[Es hlt];have hx:=gN b p;have e:(UInt8.ofNat (at_ b p)).toNat=at_ b p:=by simp;omega
     exact axd _ (by rw[e];exact h0) (by rw[e];exact hs)
    .by_cases hw:aD=false/\b.length<=p+1
     .rw[NP hlt h0 hs hw]at h;cases h
     .by_cases hl:b.length<(dL aD b p).pos+(dL aD b p).size
      .rw[Kt hlt h0 hs hw hl]at h;cases h
      .by_cases ht:(dL aD b p).id∈oO out
       .rw[Ke hlt h0 hs hw hl ht]at h;cases h
       .rw[wk_step hlt h0 hs hw hl ht]at h;have LV:=Kg aD b p;obtain⟨l,r,e1,e2,e3,e4⟩:=ih _ _ S (by omega) (by omega) h;obtain⟨g1,g2,g3⟩:=ax3 hlt h0 hs hw hl;rw[e1]at g2;generalize hsp:dL aD b p=sp at*;have hpos:sp.pos+sp.size=p+0+(enc aD (jP b sp)).length:=by
         rw[Ni];have:=congrArg Sp.pos g3;have:=congrArg Sp.size g3;simp only at*;omega
        refine⟨(0,jP b sp)::l,r,?_,?_,?_,e4⟩
        .rw[g2];simp[lay]
        .rw[e2,hpos];simp only[rC,Nat.add_zero,List.append_assoc,List.singleton_append];congr 2
        .intro x hx;rcases List.mem_cons.1 hx with rfl|hx
         .exact g1
         .exact e3 x hx
  have:p=b.length:=by omega
  rw[Bq hlt]at h;cases h;refine⟨[],[],?_,by simp[rC],by simp,agh aD⟩;rw[List.drop_of_length_le (by omega)];rfl
theorem ach{q:Nat}{b:List UInt8}(h:(spots q b).2=0):∃aD l r,Fb aD q/\b=lay aD l++r/\(spots q b).1=rC aD 0 l/\(∀x∈l,nG aD x.2)/\Hy aD r:=by
 rcases adt q b with⟨aD,hq,hs⟩|hs
 .have hw:wk aD b 0 []=((wk aD b 0 []).1,0):=by rw[<-hs];rw[<-h]
  obtain⟨l,r,e1,e2,e3,e4⟩:=avI aD b b.length 0 [] _ (by omega) (by omega) hw;exact⟨aD,l,r,hq,by simpa using e1,by rw[hs];simpa using e2,e3,e4⟩
 rw[hs]at h;cases h
theorem avt{q:Nat}{b:List UInt8}{aD:Bool}{l:List (Nat×El)}{r:List UInt8}(hb:b=lay aD l++r)(hs:(spots q b).1=rC aD 0 l)(hf:∀x∈l,nG aD x.2):
  uF q b=l.map (·.2)/\(l.map (fun x=>x.2.id.toNat)).Nodup:=by
 have h1:uF q b=l.map (·.2):=by
  unfold uF;rw[hs,hb];simpa using ahH aD l [] r hf
 refine⟨h1,?_⟩;have h2:=(AX q b).2.2;rw[h1]at h2;have h3:=(MO h2).2;rw[List.map_map]at h3;exact h3
end Go.Plain
namespace Go.Plain
def sj(l:List Int)(j:Nat):Prop:=1<=l.getD j 0/\l.getD j 0<=255/\l.getD j 0∉l.take j
instance(l:List Int)(j:Nat):Decidable (sj l j):=by unfold sj;infer_instance
def lG(l:List Int):Prop:=∀j,j<l.length->sj l j
instance(l:List Int):Decidable (lG l):=by unfold lG;infer_instance
structure Mp where
 fr:Int
 to:Int
 deriving DecidableEq
def Mp.zero:Mp:=⟨0,0⟩
structure Pl where
 sm:Bool
 m:Bool
 st:Bool
 ty:Int
 sq:Bool
 seq:Int
 dY:Bool
 time:Int
 ss:Bool
 bZ:Int
 maps:List Mp
 jf:List El
 jg:List Int
 jh:List El
 np:Bool
 deriving DecidableEq
def Pl.zero:Pl:=⟨false,false,false,0,false,0,false,0,false,0,[],[],[],[],false⟩
def OA(p:Pl):Prop:=(p.sm=true\/p.m=false)/\(p.st=true\/p.ty=0)/\(p.sq=true\/p.seq=0)/\(p.dY=true\/p.time=0)/\(p.ss=true\/p.bZ=0)/\0<=p.ty/\p.ty<=127
instance(p:Pl):Decidable (OA p):=by unfold OA;infer_instance
def fM(p:Pl):Prop:=OA p/\lG (p.maps.map (·.fr))/\lG (p.maps.map (·.to))/\lG p.jg/\lH p.jf/\lH p.jh/\(∀d∈p.jg,d∉p.maps.map (·.fr))/\∀d∈p.jg,d∉bY p.jf
instance(p:Pl):Decidable (fM p):=by unfold fM;infer_instance
def lJ(p:Pl):Prop:=p.maps.length<=1000000/\p.jf.length<=1000000/\p.jg.length<=1000000/\p.jh.length<=1000000
def fO(p:Pl):Prop:=0<=p.seq/\p.seq<65536/\0<=p.time/\p.time<4294967296/\0<=p.bZ/\p.bZ<4294967296
instance(p:Pl):Decidable (fO p):=by unfold fO;infer_instance
theorem tC{l:List Int}(h:lG l):∀x∈l,1<=x/\x<=255:=by
 intro x hx;obtain⟨j,hj,rfl⟩:=List.getElem_of_mem hx;have:=h j hj;unfold sj at this;simp[List.getD,hj]at this;omega
theorem y8(l:List Int):lG l↔(∀x∈l,1<=x/\x<=255)/\l.Nodup:=by
 constructor
 .intro h;refine⟨tC h,?_⟩;rw[List.Nodup,List.pairwise_iff_getElem];intro i j hi hj hij he;have:=(h j hj).2.2;apply this;rw[List.mem_take_iff_getElem];refine⟨i,by omega,?_⟩;simp[List.getD,hj,he]
 rintro ⟨h1,h2⟩ j hj;have hm:l.getD j 0∈l:=by simp[List.getD,hj]
 refine⟨(h1 _ hm).1,(h1 _ hm).2,fun h3=>?_⟩;rw[List.mem_take_iff_getElem]at h3;obtain⟨i,hi,he⟩:=h3;rw[List.Nodup,List.pairwise_iff_getElem]at h2;have hi2:i<l.length:=by omega
 apply h2 i j hi2 hj (by omega);rw[he];simp[List.getD,hj]
theorem Gy{l:List El}(h:lH l):lG (bY l):=by
 intro j hj;have hj2:j<l.length:=by simpa[bY]using hj
 obtain⟨h1,h2,h3,h4⟩:=h j hj2;have e:(bY l).getD j 0=(l.getD j El.zero).id:=by simp[bY,List.getD,hj2]
 have t:(bY l).take j=bY (l.take j):=by simp[bY]
 unfold sj;rw[e,t];exact⟨h1,h2,h4⟩
def newId(p:Pl)(x:Int):Int:=match p.maps.find? (·.fr==x)with|some m=>m.to|none=>x
def oL(p:Pl)(x:Int)(d:List UInt8):List UInt8:=match p.jf.find? (·.id==x)with|some e=>e.data|none=>d
def Lg(p:Pl)(e:El):El:=⟨newId p e.id,oL p e.id e.data⟩
def wJ(p:Pl)(l:List El):List El:=(l.filter fun e=>decide (e.id∉p.jg)).map (Lg p)++p.jh
def KL(p:Pl)(l:List El):Prop:=(∀x∈p.maps.map (·.fr),x∈bY l)/\(∀x∈bY p.jf,x∈bY l)/\∀x∈p.jg,x∈bY l
instance(p:Pl)(l:List El):Decidable (KL p l):=by unfold KL;infer_instance
def zM(p:Pl)(l:List El):Prop:=∀e∈l,e.id∉p.jg->(oL p e.id e.data).length=e.data.length
instance(p:Pl)(l:List El):Decidable (zM p l):=by unfold zM;infer_instance
def ru(p:Pl)(l:List El):Prop:=KL p l/\zM p l/\lG (bY (wJ p l))
instance(p:Pl)(l:List El):Decidable (ru p l):=by unfold ru;infer_instance
def DU(p:Pl)(e:El):Nat:=if e.id∈p.jg then 1 else(if e.id∈bY p.jf then 1 else 0)+(if e.id∈p.maps.map (·.fr)then 1 else 0)
def cnt(p:Pl)(l:List El):Nat:=(l.map (DU p)).sum
theorem Ta{A D:List Int}(hA:A.Nodup)(hD:D.Nodup):A.countP (fun x=>decide (x∈D))=(D.filter fun x=>decide (x∈A)).length:=by
 rw[List.countP_eq_length_filter];apply List.Perm.length_eq;rw[List.perm_ext_iff_of_nodup (hA.sublist List.filter_sublist) (hD.sublist List.filter_sublist)];intro a;simp only[List.mem_filter,decide_eq_true_eq];exact And.comm
theorem filter_all{D:List Int}(q:Int->Bool):(D.filter q).length=D.length↔∀x∈D,q x=true:=by
 rw[List.length_filter_eq_length_iff]
theorem ajG(p:Pl)(h1:∀d∈p.jg,d∉p.maps.map (·.fr))(h2:∀d∈p.jg,d∉bY p.jf):∀l:List El,
  cnt p l=(bY l).countP (fun x=>decide (x∈p.jg))+((bY l).countP (fun x=>decide (x∈bY p.jf))+(bY l).countP (fun x=>decide (x∈p.maps.map (·.fr))))
 | []=>rfl
 |e::l=>by
  have ih:=ajG p h1 h2 l;have e1:cnt p (e::l)=DU p e+cnt p l:=by simp[cnt]
  have e2:bY (e::l)=e.id::bY l:=rfl;rw[e1,e2,List.countP_cons,List.countP_cons,List.countP_cons,ih];unfold DU;by_cases hd:e.id∈p.jg
  .have a:=h1 _ hd;have b:=h2 _ hd;simp only[hd,a,b,if_true,decide_true,decide_false];simp;omega
  simp only[hd,if_false,decide_false,decide_eq_true_eq];simp;omega
theorem afS{p:Pl}(hp:fM p){l:List El}(hl:lH l):cnt p l=p.jg.length+p.maps.length+p.jf.length↔KL p l:=by
 obtain⟨_,r1,_,r2,r3,_,r4,r5⟩:=hp;have n0:=((y8 _).1 (Gy hl)).2;have n1:=((y8 _).1 r1).2;have n2:=((y8 _).1 r2).2;have n3:=((y8 _).1 (Gy r3)).2;rw[ajG p r4 r5,Ta n0 n2,Ta n0 n3,Ta n0 n1];have l1:=List.length_filter_le (fun x=>decide (x∈bY l)) p.jg;have l2:=List.length_filter_le (fun x=>decide (x∈bY l)) (bY p.jf);have l3:=List.length_filter_le (fun x=>decide (x∈bY l)) (p.maps.map (·.fr));have m1:(p.maps.map (·.fr)).length=p.maps.length:=by simp
 have m2:(bY p.jf).length=p.jf.length:=by simp[bY]
 have a1:=filter_all (D:=p.jg) (fun x=>decide (x∈bY l));have a2:=filter_all (D:=bY p.jf) (fun x=>decide (x∈bY l));have a3:=filter_all (D:=p.maps.map (·.fr)) (fun x=>decide (x∈bY l));unfold KL;simp only[decide_eq_true_eq]at a1 a2 a3;rw[<-a1,<-a2,<-a3];omega
end Go.Plain
namespace Go.Vc
open Go.ChangeShapes Go.WideShapes Go.ChangeAt Go.RowKit
def Ty:Sh->C->Prop
 | .int k,c=>∃n,c=.int n/\(Lit.int k n).wf=true
 | .bool,c=>∃b,c=.bool b
 | .str,c=>∃s,c=.str s/\s.length<=maxLen
 | .sl e,c=>∃l,c=.ls l/\l.length<=maxLen/\∀x∈l,Ty e x
 | .je,c=>c=.ls []
 | .jc a b,c=>∃x l,c=.ls (x::l)/\Ty a x/\Ty b (.ls l)
 |_,_=>False
theorem aAt{k:IntKind}{n:Int}:(Lit.int k n).wf=true↔k.min<=n/\n<=k.max:=by
 simp[Lit.wf]
def PL:List Sh->List C->Prop
 | [],cs=>cs=[]
 |s::l,cs=>∃c r,cs=c::r/\Ty s c/\PL l r
theorem EW{k:IntKind}{c:C}(h:Ty (.int k) c):∃n:Int,c=.int n/\k.min<=n/\n<=k.max:=by
 obtain⟨n,h1,h2⟩:=h;exact⟨n,h1,aAt.1 h2⟩
theorem OP{k:IntKind}(hs:k.signed=false){c:C}(h:Ty (.int k) c):∃n:Nat,c=.int n/\n<2^k.bits:=by
 obtain⟨n,rfl,h1,h2⟩:=EW h;refine⟨n.toNat,?_,?_⟩
 .cases k<;>simp[IntKind.signed]at hs<;>simp[IntKind.min,IntKind.signed]at h1<;>congr 1<;>omega
 cases k<;>simp[IntKind.signed]at hs<;>simp[IntKind.min,IntKind.max,IntKind.signed,IntKind.bits]at h1 h2 |- <;>omega
theorem af9{c:C}(h:Ty (.sl (.int .u8)) c):∃b:List UInt8,c=.ls (ofBytes b):=by
 obtain⟨l,rfl,_,hl⟩:=h;refine⟨l.map fun c=>UInt8.ofNat c.toInt.toNat,?_⟩;congr 1
 simp only[ofBytes,vW];conv=>lhs;rw[<-List.map_id l]
 apply Ca;intro c hc;obtain⟨n,rfl,hn⟩:=OP rfl (hl c hc);simp only[Function.comp,id,C.toInt_int,dF,zu];simp[IntKind.bits]at hn;congr 1
 omega
def KS(P:Program)(R:TypeId->Sh->Bool):List Field->Sh->Nat->Bool
 | [],.je,_=>true
 |f::fs,.jc a b,off=>f.offset==off&&(P.cellsOf f.type==a.size&&(R f.type a&&(b.isAgg&&KS P R fs b (off+a.size))))
 |_,_,_=>false
def yg(P:Program):Nat->TypeId->Sh->Bool
 |0,_,_=>false
 |n+1,t,s=>match P.underlying t,s with
  |some .bool,.bool=>true
  |some (.int k),.int k'=>decide (k=k')
  |some .string,.str=>true
  |some (.slice e),.sl s=>P.cellsOf e==s.size&&(s.size !=0&&yg P n e s)
  |some (.struct fs),s=>s.isAgg&&(P.cellsOf t==s.size&&KS P (yg P n) fs.toList s 0)
  |_,_=>false
theorem Ty.agg{s:Sh}{c:C}(hs:s.isAgg=true)(h:Ty s c):∃l,c=.ls l:=by
 cases s with
 |je=>exact⟨[],h⟩
 |jc a b=>obtain⟨x,l,h,_⟩:=h;exact⟨_,h⟩
 |_=>cases hs
theorem pick{Q:Nat->C->Prop}:∀n:Nat,(∀i,i<n->∃c,Q i c)->∃l:List C,l.length=n/\∀i c,l[i]?=some c->Q i c
 |0,_=>⟨[],rfl,fun i c h=>by simp at h⟩
 |n+1,h=>by
  obtain⟨l,h1,h2⟩:=pick n fun i hi=>h i (by omega);obtain⟨c,hc⟩:=h n (by omega);refine⟨l++ [c],by simp[h1],fun i c' hi=>?_⟩;by_cases hl:i<n
  .rw[xw (by omega)]at hi;exact h2 i c' hi
  have:i=n:=by
   have:=(zy.1 hi).1;simp at this;omega
  subst this;rw[F6 (by omega),h1]at hi;simp at hi;exact hi▸hc
section
variable{H:Type}{enc:TypeId×Value->H}{P:Program}{w:World}{base:Nat}{sp:Nat->Bool}{held:Bool}
theorem awG{n m:Nat}(ih:∀t s cs fuel x,yg P n t s=true->DataW.trod enc P w base sp held fuel t cs=some x->∃c,Rd w (fun _=>True) s cs c/\Ty s c)
  {cs:List Value}:∀(fs:List Field) (s:Sh) (off:Nat) (xs:List (DataW H×List MemPlace)),xs.length=fs.length->
   (∀(i:Nat) (f:Field),fs[i]?=some f->DataW.trod enc P w base sp held m f.type ((cs.drop f.offset).take (P.cellsOf f.type))=xs[i]?)->
   KS P (yg P n) fs s off=true->cs.length=off+s.size->∃c,Rd w (fun _=>True) s (cs.drop off) c/\Ty s c:=by
 intro fs;induction fs with
 |nil=>
  intro s off xs _ _ hg hl;cases s<;>simp[KS]at hg;exact⟨.ls [],by simp only[Rd];apply FZ;simp[Sh.size]at hl;omega,rfl⟩
 |cons f fs ihf=>
  intro s off xs hxl hx hg hl;cases s<;>simp[KS]at hg;rename_i a b;obtain⟨h1,h2,h3,h4,h5⟩:=hg;cases xs with
  |nil=>simp at hxl
  |cons x xs=>
   have h0:=hx 0 f rfl;simp only[List.getElem?_cons_zero]at h0;rw[h1,h2]at h0;obtain⟨ca,r1,r2⟩:=ih _ _ _ _ _ h3 h0;obtain⟨cb,r3,r4⟩:=ihf b (off+a.size) xs (by simpa using hxl) (fun i g hg=>by simpa using hx (i+1) g (by simpa using hg)) h5 (by simp[Sh.size]at hl;omega);obtain⟨l,rfl⟩:=r4.agg h4;refine⟨.ls (ca::l),⟨h4,(cs.drop off).take a.size,cs.drop (off+a.size),?_,r1,r3⟩,ca,l,rfl,r2,r4⟩;rw[<-xq,D5]
theorem ayy:∀(n:Nat) (t:TypeId) (s:Sh) (cs:List Value) (fuel:Nat) (x:DataW H×List MemPlace),
  yg P n t s=true->DataW.trod enc P w base sp held fuel t cs=some x->∃c,Rd w (fun _=>True) s cs c/\Ty s c:=by
 intro n;induction n with
 |zero=>intro t s cs fuel x h;simp[yg]at h
 |succ n ih=>
  intro t s cs fuel x hg ht;unfold yg at hg;split at hg
  next hu=>obtain⟨b,rfl,_⟩:=DataW.trod_bool hu ht;exact⟨.bool b,rfl,b,rfl⟩
  next k k' hu=>obtain⟨m,rfl,_,hw⟩:=DataW.trod_int hu ht;have:=ng hg;subst this;exact⟨.int m,rfl,m,rfl,hw⟩
  next hu=>obtain⟨str,rfl,_,hl⟩:=DataW.trod_string hu ht;exact⟨.str str.data.toList,by simp[Rd],_,rfl,by simpa using hl⟩
  .rename_i e s hu;simp at hg;obtain⟨h1,h2,h3⟩:=hg;rcases DataW.trod_slice hu ht with⟨rfl,_⟩|⟨a,len,cap,elems,rest,m,_,rfl,_,_,hl,hm,hlen,hel,_,_⟩
   .exact ⟨.ls [],⟨none,0,rfl,by simp,by simp[maxLen],by simp⟩,[],rfl,by simp,by simp⟩
   by_cases hz:len=0
   .subst hz;exact⟨.ls [],⟨some a,cap,rfl,by simp,hm,by simp⟩,[],rfl,by simp,by simp⟩
   obtain⟨b,off,spot⟩:=a;have ain:∀i,i<len->∃us c,w.cells? base (Addr.add ⟨b,off,spot⟩ (i*s.size)) s.size=some us/\Rd w (fun _=>True) s us c/\Ty s c:=by
    intro i hi;have h4:=hel i hi;rw[nL (by omega),vV]at h4;obtain⟨us,h5,h6⟩:=h4;obtain⟨c,r1,r2⟩:=ih _ _ _ _ _ h3 h6;exact⟨us,c,by rw[<-h1];exact h5,r1,r2⟩
   have hsp:spot=none/\b<w.heap.size:=by
    obtain⟨us,c,h5,_⟩:=ain 0 (by omega);obtain⟨_,h7,h8⟩:=World.cells?_some h5;have h9:=h8 0 (by omega);rw[nL (by omega)]at h9;simp[Addr.add]at h9;refine⟨by simpa using World.cell?_spot h9,?_⟩;have hnn:w.heap[b]?≠none:=by
     intro hn;simp[World.cell?,hn]at h9
    exact Nat.lt_of_not_le fun hle=>hnn (by simpa using hle)
   obtain⟨rfl,hlt⟩:=hsp;have each:∀i,i<len->∃c,((∃us,us.length=s.size/\pG w b (off+i*s.size) us/\Rd w (fun _=>True) s us c)/\Ty s c):=by
    intro i hi;obtain⟨us,c,h5,r1,r2⟩:=ain i hi;obtain⟨_,h7,h8⟩:=World.cells?_some h5;refine⟨c,⟨us,h7,fun j u hj=>?_,r1⟩,r2⟩;have hj':j<s.size:=by
     have:=(zy.1 hj).1;omega
    have h9:=h8 j hj';rw[hj]at h9;have ea:∀(o k:Nat),Addr.add ⟨b,o,none⟩ k=⟨b,o+k,none⟩:=by
     intro o k;simp only[Addr.add];split<;>simp_all
    rw[ea,ea]at h9;exact h9
   obtain⟨l,l1,l2⟩:=pick len each;refine⟨.ls l,⟨some ⟨b,off,none⟩,cap,by simp only[C.lF,l1],by simp only[C.lF,l1];exact hl,hm,fun _=>⟨b,off,rfl,trivial,hlt,fun i c hi=>(l2 i c hi).1⟩⟩,l,rfl,by omega,fun c hc=>?_⟩;obtain⟨i,hi⟩:=List.getElem?_of_mem hc;exact(l2 i c hi).2
  next fs hu=>simp at hg;obtain⟨h0,h1,h2⟩:=hg;obtain⟨xs,m,_,_,h3,h4,h5⟩:=DataW.trod_struct hu ht;have:=awG ih fs.toList _ 0 xs (by simpa using h4) (fun i f hf=>h5 i f (by simpa using hf)) h2 (by omega);simpa using this
  cases hg
theorem aAf{r:Reach}{b0 n:Nat}{t:TypeId}{s:Sh}{v:Value}{d:DataW H}{ps:List MemPlace}(hg:yg P n t s=true)(hv:Value.okWide P w r b0 t v)
  (hd:DataW.Trod enc P w base sp held t v d ps):∃c,bV w (fun _=>True) s v c/\Ty s c:=by
 obtain⟨fuel,hf⟩:=hd;obtain⟨c,r1,r2⟩:=ayy n t s _ _ _ hg hf;refine⟨c,⟨_,r1,?_⟩,r2⟩;cases n with
 |zero=>simp[yg]at hg
 |succ n=>
  unfold yg at hg;split at hg
  next hu=>obtain⟨_,rfl⟩:=okWide_bool hu hv;rfl
  next hu=>obtain⟨_,rfl⟩:=okWide_int hu hv;rfl
  next hu=>obtain⟨_,rfl⟩:=okWide_string hu hv;rfl
  next hu=>obtain⟨_,_,_,rfl⟩:=okWide_slice hu hv;rfl
  next hu=>obtain⟨cs,rfl,_⟩:=okWide_struct hu hv;simp at hg;simp[Sh.mk,hg.1,Value.cells]
  cases hg
def KR(P:Program)(n:Nat):List TypeId->List Sh->Bool
 | [],[]=>true
 |t::ts,s::l=>yg P n t s&&KR P n ts l
 |_,_=>false
theorem aht{r:Reach}{b0 n:Nat}:∀{ts:List TypeId}{dZ:List Sh}{vs:List Value}{ds:List (DataW H)} {ps:List MemPlace},
  KR P n ts dZ=true->(∀(j:Nat) t v,ts[j]?=some t->vs[j]?=some v->Value.okWide P w r b0 t v)->DataW.TrodAll enc P w base sp held ts vs ds ps->
  ∃cs,fI w (fun _=>True) (dZ.zip cs) vs/\PL dZ cs
 | [],[],vs,ds,ps,_,_,h=>by
  cases vs with
  |nil=>exact⟨[],rfl,rfl⟩
  |cons _ _=>simp[DataW.TrodAll]at h
 |t::ts,s::l,vs,ds,ps,hg,hv,h=>by
  cases vs with
  |nil=>simp[DataW.TrodAll]at h
  |cons v vs=>
   cases ds with
   |nil=>simp[DataW.TrodAll]at h
   |cons d ds=>
    obtain⟨p,q,h1,h2,_⟩:=h;simp[KR]at hg;obtain⟨c,r1,r2⟩:=aAf hg.1 (hv 0 t v rfl rfl) h1;obtain⟨cs,r3,r4⟩:=aht hg.2 (fun j t' v' ht' hv'=>hv (j+1) t' v' (by simpa using ht') (by simpa using hv')) h2;exact⟨c::cs,⟨v,vs,rfl,r1,r3⟩,c,cs,rfl,r2,r4⟩
 | [],_::_,_,_,_,h,_,_|_::_,[],_,_,_,h,_,_=>by simp[KR]at h
theorem af0(hl:laidOutB P=true){W W':World}(hb:Below W.heap.size W W'):∀{ts:List TypeId}{vs:List Value}{ds:List (DataW H)} {ps:List MemPlace},
  (ts.all fun t=>P.readableRec t&&decide (t<P.types.size))=true->DataW.TrodAll enc P W 0 (fun _=>true) true ts vs ds ps->
  DataW.TrodAll enc P W' 0 (fun b=>decide (b<W.heap.size)) true ts vs ds ps
 | [],[],[],_,_,h=>h
 |t::ts,v::vs,d::ds,ps,hr,⟨p,q,h1,h2,h3⟩=>by
  simp at hr;have lt:∀x∈p,x.block<W.heap.size:=by
   obtain⟨m,hm⟩:=h1;exact DataW.trod_lt m _ _ _ hm
  exact⟨p,q,Below.trod hl hr.1.1 hr.1.2 h1 hb lt,af0 hl hb (by simpa using hr.2) h2,h3⟩
 | [],[],_::_,_,_,h| [],_::_,_,_,_,h|_::_,[],_,_,_,h|_::_,_::_,[],_,_,h=>by simp[DataW.TrodAll]at h
end
theorem ado{H:Type}{enc:TypeId×Value->H}{P:Program}{w:World}{base:Nat}{sp:Nat->Bool}{held:Bool}:∀{ts:List TypeId}{vs:List Value}{ds:List (DataW H)} {ps:List MemPlace},
  DataW.TrodAll enc P w base sp held ts vs ds ps->ds.length=ts.length
 | [],[],[],_,_=>rfl
 |_::_,_::_,_::_,_,⟨_,_,_,h,_⟩=>by simp[ado h]
 | [],[],_::_,_,h| [],_::_,_,_,h|_::_,[],_,_,h|_::_,_::_,[],_,h=>by simp[DataW.TrodAll]at h
end Go.Vc
namespace Go.Vc
def VC.uh:List Nat->VC->Bool
 |_,.fail _=>true
 |ls,.ak _ _ k=>k.uh ls
 |ls,.call _ _ _ _ k=>k.uh ls
 |ls,.cond _ a b=>a.uh ls&&b.uh ls
 |_,.Cz _ _ _=>false
 |_,.ret _=>true
 |ls,.loop i b=>b.uh (ls++ [i.length])
 |ls,.jm l es=>es.length==ls.getD l 0
 |ls,.cut n b r=>b.uh (ls++ [n])&&r.uh ls
def BJ(Post:List (Sh×C)->Prop)(ls:List Nat)(B:List (List C->Prop))(O:List (List C->List (Sh×C)->Prop)):Prop:=
 ls.length=B.length/\O.length=B.length/\∀i vs,vs.length=ls.getD i 0->(B.getD i fun _=>False) vs->∃rs,Post rs/\(O.getD i fun _ _=>False) vs rs
theorem afC{α:Type}{l:List α}{x d:α}{i:Nat}:(l++ [x]).getD i d=if i<l.length then l.getD i d else if i=l.length then x else d:=by
 simp only[F7];split
 .rw[xw (by assumption)]
 rw[F6 (by omega)];split
 .subst_vars;simp
 rw[Jd (by simp;omega)];rfl
theorem BJ.snoc{Post:List (Sh×C)->Prop}{ls:List Nat}{B:List (List C->Prop)}{O:List (List C->List (Sh×C)->Prop)}(h:BJ Post ls B O){n:Nat}{b:List C->Prop}{o:List C->List (Sh×C)->Prop}
  (hn:∀vs,vs.length=n->b vs->∃rs,Post rs/\o vs rs):BJ Post (ls++ [n]) (B++ [b]) (O++ [o]):=by
 obtain⟨h1,h2,h3⟩:=h;refine⟨by simp[h1],by simp[h2],fun i vs hl hb=>?_⟩;rw[afC]at hl hb;rw[afC];rw[h1]at hl;rw[h2];by_cases hi:i<B.length
 .rw[aC hi]at*;exact h3 i vs hl hb
 rw[zq hi]at*;by_cases hj:i=B.length
 .rw[aC hj]at*;exact hn vs hl hb
 rw[zq hj]at*;exact hb.elim
theorem awn{O:List (List C->List (Sh×C)->Prop)}{rs:List (Sh×C)}{i:Nat}{vs:List C}:((O.map fun o vs=>o vs rs).getD i fun _=>False) vs=(O.getD i fun _ _=>False) vs rs:=by
 simp only[F7,ow];cases O[i]?<;>rfl
theorem aft{O:List (List C->List (Sh×C)->Prop)}{o:List C->List (Sh×C)->Prop}{rs:List (Sh×C)}:((O++ [o]).map fun o vs=>o vs rs)=(O.map fun o vs=>o vs rs)++ [fun vs=>o vs rs]:=by simp
theorem CK.last{B:List (List C->Prop)}{f g:List C->Prop}(h:∀vs,f vs->g vs):CK (B++ [f]) (B++ [g]):=by
 refine⟨by simp,fun i f' g' vs h1 h2 h3=>?_⟩;by_cases hi:i<B.length
 .rw[xw hi]at h1 h2;rw[h1]at h2;cases h2;exact h3
 have hi':i=B.length:=by
  have:=(zy.1 h1).1;simp at this;omega
 subst hi';rw[F6 (aS _)]at h1 h2;simp at h1 h2;subst h1 h2;exact h vs h3
theorem VC.det_holds{P:Program}{Post:List (Sh×C)->Prop}:∀(k:VC) {ls:List Nat}{B:List (List C->Prop)} {O:List (List C->List (Sh×C)->Prop)} {ρ:List C},
  k.uh ls=true->BJ Post ls B O->k.holds P Post B ρ->∃rs,Post rs/\k.holds P (fun r=>r=rs) (O.map fun o vs=>o vs rs) ρ
 | .fail _,_,_,_,_,_,_,h=>h.elim
 | .ak _ _ k,_,_,_,_,hd,hl,h=>let ⟨rs,h1,h2⟩:=VC.det_holds k hd hl h.2;⟨rs,h1,h.1,h2⟩
 | .call _ _ _ _ k,_,_,_,_,hd,hl,⟨res,h1,h2,h3⟩=>let ⟨rs,h4,h5⟩:=VC.det_holds k hd hl h3;⟨rs,h4,res,h1,h2,h5⟩
 | .cond e a b,_,_,_,ρ,hd,hl,h=>by
  simp only[VC.uh,bB]at hd;cases he:(e.eval ρ).toBool with
  |true=>
   obtain⟨rs,h1,h2⟩:=VC.det_holds a hd.1 hl (h.1 he);exact⟨rs,h1,VC.aAD he h2⟩
  |false=>
   obtain⟨rs,h1,h2⟩:=VC.det_holds b hd.2 hl (h.2 he);exact⟨rs,h1,VC.aBy he h2⟩
 | .Cz _ _ _,_,_,_,_,hd,_,_=>by simp[VC.uh]at hd
 | .ret _,_,_,_,_,_,_,h=>⟨_,h,rfl⟩
 | .jm l es,ls,B,O,ρ,hd,hl,h=>by
  simp only[VC.uh,beq_iff_eq]at hd;rw[VC.KY]at h;obtain⟨rs,h1,h2⟩:=hl.2.2 l _ (by rw[bJ,hd]) h;refine⟨rs,h1,?_⟩;rw[VC.KY,awn];exact h2
 | .cut n b r,ls,B,O,ρ,hd,hl,⟨I,hb,hr⟩=>by
  simp only[VC.uh,bB]at hd;have h1:BJ Post (ls++ [n]) (B++ [I]) (O++ [fun vs rs=>r.holds P (fun q=>q=rs) (O.map fun o vs=>o vs rs) (ρ++vs)]):=
   hl.snoc fun vs hn hi=>VC.det_holds r hd.2 hl (hr vs hn hi)
  obtain⟨rs,h2,h3⟩:=VC.det_holds b hd.1 h1 hb;rw[aft]at h3;exact⟨rs,h2,_,h3,fun vs _ h=>h⟩
 | .loop init b,ls,B,O,ρ,hd,hl,⟨I,μ,hi,hb⟩=>by
  simp only[VC.uh]at hd;let T:Nat->List C->List (Sh×C)->Prop:=fun n=>Nat.rec (fun _ _=>False)
   (fun _ t vs rs=>b.holds P (fun q=>q=rs) ((O.map fun o vs=>o vs rs)++ [fun vs'=>(vs'.length=init.length/\I vs'/\μ vs'<μ vs)/\t vs' rs]) (ρ++vs)) n
  have hT:∀n vs rs,T (n+1) vs rs=b.holds P (fun q=>q=rs) ((O.map fun o vs=>o vs rs)++ [fun vs'=>(vs'.length=init.length/\I vs'/\μ vs'<μ vs)/\T n vs' rs]) (ρ++vs):=fun _ _ _=>rfl;have low:∀m n vs rs,T (n+1) vs rs->μ vs<=m->T (m+1) vs rs:=by
   intro m;induction m with
   |zero=>
    intro n vs rs h hm;replace h:=(hT n vs rs).mp h;refine(hT 0 vs rs).mpr ?_;exact VC.vD (CK.last fun vs' hv=>absurd hv.1.2.2 (by omega)) b h
   |succ m ih=>
    intro n vs rs h hm;replace h:=(hT n vs rs).mp h;refine(hT (m+1) vs rs).mpr ?_;refine VC.vD (CK.last fun vs' hv=>⟨hv.1,?_⟩) b h;cases n with
    |zero=>exact hv.2.elim
    |succ n=>exact ih n vs' rs hv.2 (by have:=hv.1.2.2;omega)
  have ex:∀m vs,μ vs<m->vs.length=init.length->I vs->∃rs,Post rs/\T m vs rs:=by
   intro m;induction m with
   |zero=>intro vs h;omega
   |succ m ih=>
    intro vs hm hlen hI;have hs:BJ Post (ls++ [init.length]) (B++ [fun vs'=>I vs'/\μ vs'<μ vs]) (O++ [fun vs' rs=>(vs'.length=init.length/\I vs'/\μ vs'<μ vs)/\T m vs' rs]):=
     hl.snoc fun vs' hn hv=>by
      obtain⟨rs,h1,h2⟩:=ih vs' (by omega) hn hv.1;exact⟨rs,h1,⟨hn,hv.1,hv.2⟩,h2⟩
    obtain⟨rs,h1,h2⟩:=VC.det_holds b hd hs (hb vs hlen hI);rw[aft]at h2;exact⟨rs,h1,h2⟩
  have hlen:(init.map (·.eval ρ)).length=init.length:=by simp
  obtain⟨rs,h1,h2⟩:=ex _ _ (Nat.lt_succ_self _) hlen hi;refine⟨rs,h1,fun vs=>T (μ vs+1) vs rs,μ,h2,fun vs _ h=>?_⟩;replace h:=(hT (μ vs) vs rs).mp h;refine VC.vD (CK.last fun vs' hv=>⟨?_,hv.1.2.2⟩) b h;obtain⟨⟨_,_,hlt⟩,ht⟩:=hv;cases hm:μ vs with
  |zero=>omega
  |succ n=>
   rw[hm]at ht;exact low _ n vs' rs ht (aS _)
theorem BJ.nil{Post:List (Sh×C)->Prop}:BJ Post [] [] []:=⟨rfl,rfl,fun i vs _ h=>by simp at h⟩
theorem VC.tells{P:Program}{Post:List (Sh×C)->Prop}{k:VC}{ρ:List C}(hd:k.uh []=true)(h:k.holds P Post [] ρ):∃rs,Post rs/\k.holds P (fun r=>r=rs) [] ρ:=VC.det_holds k hd BJ.nil h
end Go.Vc
namespace Go.Plain
def jM(F B:Nat)(l:List Nat):Nat->Nat
 |0=>F
 |n+1=>B*jM F B l n+l.getD n 0
def nT(l:List Nat):Nat:=((l.take 8191).takeWhile fun x=>x==l.getD 0 0).length
def uE(l:List Nat):Prop:=∀x∈l.take 14,x≠2
instance(l:List Nat):Decidable (uE l):=by unfold uE;exact inferInstance
def oI(l:List Nat):Nat:=
 if 14<=nT l\/nT l=l.length then 8192*l.getD 0 0+nT l else if uE l then jM 2 2 l 14 else jM 3 4 l 7
def kY(l:List Nat):Nat:=
 if 14<=nT l\/nT l=l.length then nT l else if uE l then min 14 l.length else min 7 l.length
theorem TD{l:List Nat}(h:l≠[]):1<=nT l/\nT l<=l.length/\nT l<=8191:=by
 cases l with
 |nil=>exact absurd rfl h
 |cons x l=>
  unfold nT;rw[show(8191:Nat)=8190+1 from rfl,List.take_succ_cons,List.takeWhile_cons_of_pos (by simp),List.length_cons];have h1:=(List.takeWhile_prefix (fun y=>y==(x::l).getD 0 0) (l:=l.take 8190)).length_le;have h2:(l.take 8190).length<=8190:=by rw[List.length_take];omega
  have h3:(l.take 8190).length<=l.length:=by rw[List.length_take];omega
  simp only[List.length_cons];omega
theorem OH{l:List Nat}(h:l≠[]):1<=kY l/\kY l<=l.length:=by
 have h1:=TD h;have h2:=List.length_pos_iff.2 h;unfold kY;split
 .omega
 split<;>omega
def lD(l:List Nat):List Nat:=if h:l=[]then []else oI l::lD (l.drop (kY l))
termination_by l.length
decreasing_by
 have:=OH h;simp only[List.length_drop];omega
theorem OG:lD []=[]:=by rw[lD];rfl
theorem N9{l:List Nat}(h:l≠[]):lD l=oI l::lD (l.drop (kY l)):=by rw[lD,dif_neg h]
def qd(c:Nat):List Nat:=
 if c<32768 then List.replicate (c%8192) (c/8192)
 else if c<49152 then(List.range 14).map fun i=>c/2^(13-i)%2
 else(List.range 7).map fun i=>c/4^(6-i)%4
theorem Ue(F B:Nat)(l:List Nat):∀n,F*B^n<=jM F B l n
 |0=>by simp[jM]
 |n+1=>by
  have h:=Nat.mul_le_mul_left B (Ue F B l n);rw[jM,Nat.pow_succ,<-Nat.mul_assoc,Nat.mul_comm];omega
theorem Uf(F B:Nat)(l:List Nat)(n:Nat)(h:∀i,i<n->l.getD i 0<B):jM F B l n<(F+1)*B^n:=by
 induction n with
 |zero=>simp[jM]
 |succ n ih=>
  have h1:=ih fun i hi=>h i (by omega);have h2:=h n (by omega);have h3:B*(jM F B l n+1)<=B*((F+1)*B^n):=Nat.mul_le_mul_left B h1;rw[jM,Nat.pow_succ,<-Nat.mul_assoc,Nat.mul_comm _ B];rw[Nat.mul_add,Nat.mul_one]at h3;omega
def qU(l:List Nat):Prop:=∀x∈l,x<=2
theorem Oz{l:List Nat}(h:qU l)(i:Nat):l.getD i 0<=2:=by
 by_cases hi:i<l.length
 .rw[List.getD,List.getElem?_eq_getElem hi];exact h _ (List.getElem_mem hi)
 simp[List.getD,Nat.not_lt.1 hi]
theorem awm{l:List Nat}(h:qU l)(h1:uE l)(i:Nat)(hi:i<14):l.getD i 0<2:=by
 by_cases hl:i<l.length
 .have h2:l.getD i 0∈l.take 14:=by
   rw[List.getD,List.getElem?_eq_getElem hl];exact List.mem_take_iff_getElem.2 ⟨i,by omega,rfl⟩
  have h3:=h1 _ h2;have h4:=Oz h i;omega
 simp[List.getD,Nat.not_lt.1 hl]
theorem azE{l:List Nat}(h:qU l)(hne:l≠[])(hr:14<=nT l\/nT l=l.length):oI l<32768/\oI l%8192=nT l/\oI l/8192=l.getD 0 0/\kY l=nT l:=by
 have h1:=TD hne;have h2:=Oz h 0;rw[oI,if_pos hr,kY,if_pos hr];omega
theorem azF{l:List Nat}(h:qU l)(hr:¬(14<=nT l\/nT l=l.length))(ho:uE l):32768<=oI l/\oI l<49152/\oI l=jM 2 2 l 14/\kY l=min 14 l.length:=by
 have h1:=Ue 2 2 l 14;have h2:=Uf 2 2 l 14 (awm h ho);rw[oI,if_neg hr,if_pos ho,kY,if_neg hr,if_pos ho];omega
theorem azD{l:List Nat}(h:qU l)(hr:¬(14<=nT l\/nT l=l.length))(ho:¬uE l):49152<=oI l/\oI l<65536/\oI l=jM 3 4 l 7/\kY l=min 7 l.length:=by
 have h1:=Ue 3 4 l 7;have h2:=Uf 3 4 l 7 (fun i _=>by have:=Oz h i;omega);rw[oI,if_neg hr,if_neg ho,kY,if_neg hr,if_neg ho];omega
theorem Tz(l:List Nat)(n:Nat):l.take (min n l.length)=l.take n:=by
 by_cases h:n<=l.length
 .rw[Nat.min_eq_left h]
 rw[Nat.min_eq_right (by omega),List.take_length,List.take_of_length_le (by omega)]
def rd:List Nat->Nat->Except Int (List Nat×Nat)
 | [],n=>if n=0 then .ok ([],0)else .error 2
 |x::c,n=>if n=0 then .ok ([],0)else if 3∈(qd x).take n then .error 6 else
   match rd c (n-((qd x).take n).length)with
   | .ok (l,k)=> .ok ((qd x).take n++l,k+1)
   | .error e=> .error e
theorem Dc(c:List Nat):rd c 0=.ok ([],0):=by cases c<;>rfl
theorem aBk{c:List Nat}:∀{n:Nat}{l:List Nat}{k:Nat},rd c n=.ok (l,k)->l.length=n/\k<=c.length/\3∉l:=by
 induction c with
 |nil=>
  intro n l k h;unfold rd at h;split at h
  .simp at h;obtain⟨rfl,rfl⟩:=h;rename_i h0;exact⟨by simp[h0],by simp,by simp⟩
  cases h
 |cons x c ih=>
  intro n l k h;unfold rd at h;split at h
  .simp at h;obtain⟨rfl,rfl⟩:=h;rename_i h0;exact⟨by simp[h0],by simp,by simp⟩
  split at h
  .cases h
  split at h
  .rename_i h3 _ l' k' hr;simp at h;obtain⟨rfl,rfl⟩:=h;obtain⟨i1,i2,i3⟩:=ih hr;refine⟨?_,by simp;omega,?_⟩
   .rw[List.length_append,i1];have:((qd x).take n).length<=n:=by rw[List.length_take];omega
    omega
   .simp only[List.mem_append,not_or];exact⟨h3,i3⟩
  cases h
theorem aAJ(c:Nat)(h:c<65536):∀x∈qd c,x<=3:=by
 intro x hx;unfold qd at hx;split at hx
 .rw[(List.mem_replicate.1 hx).2];omega
 split at hx
 .simp only[List.mem_map]at hx;obtain⟨i,_,rfl⟩:=hx;omega
 simp only[List.mem_map]at hx;obtain⟨i,_,rfl⟩:=hx;omega
theorem aAh{c:List Nat}(hc:∀x∈c,x<65536):∀{n:Nat}{l:List Nat}{k:Nat},rd c n=.ok (l,k)->qU l:=by
 induction c with
 |nil=>
  intro n l k h;unfold rd at h;split at h
  .simp at h;obtain⟨rfl,rfl⟩:=h;intro x hx;cases hx
  cases h
 |cons x c ih=>
  intro n l k h;unfold rd at h;split at h
  .simp at h;obtain⟨rfl,rfl⟩:=h;intro x hx;cases hx
  split at h
  .cases h
  split at h
  .rename_i h3 _ l' k' hr;simp at h;obtain⟨rfl,rfl⟩:=h;have i1:=ih (fun y hy=>hc y (by simp[hy])) hr;intro y hy;rcases List.mem_append.1 hy with hy|hy
   .have:=aAJ x (hc x (by simp)) y (List.mem_of_mem_take hy);have:y≠3:=fun e=>h3 (e▸hy);omega
   .exact i1 y hy
  cases h
theorem UF{l:List Nat}(h:qU l)(n:Nat):qU (l.drop n):=fun x hx=>h x (List.mem_of_mem_drop hx)
theorem ajI:∀(n:Nat) (l:List Nat),l.length=n->qU l->∀x∈lD l,x<65536:=by
 intro n;induction n using Nat.strongRecOn with
 |ind n ih=>
  intro l hl h x hx;by_cases hne:l=[]
  .subst hne;rw[OG]at hx;cases hx
  have hm:=OH hne;rw[N9 hne]at hx;rcases List.mem_cons.1 hx with rfl|hx
  .by_cases hr:14<=nT l\/nT l=l.length
   .have:=(azE h hne hr).1;omega
   .by_cases ho:uE l
    .have:=(azF h hr ho).2.1;omega
    .exact (azD h hr ho).2.1
  exact ih (l.length-kY l) (by omega) (l.drop (kY l)) List.length_drop (UF h _) x hx
theorem avv{l:List Nat}:lD l=[]↔l=[]:=by
 constructor
 .intro h;by_cases hne:l=[]
  .exact hne
  .rw[N9 hne]at h;cases h
 intro h;subst h;exact OG
theorem aAI:∀(n:Nat) (l:List Nat),l.length=n->qU l->(lD l).length<=(l.length+6)/7:=by
 intro n;induction n using Nat.strongRecOn with
 |ind n ih=>
  intro l hl h;by_cases hne:l=[]
  .subst hne;rw[OG];simp
  have hm:=OH hne;have d1:(l.drop (kY l)).length=l.length-kY l:=List.length_drop;have hi:=ih (l.length-kY l) (by omega) (l.drop (kY l)) d1 (UF h _);have h7:7<=kY l\/kY l=l.length:=by
   unfold kY;split
   .omega
   .split<;>omega
  rw[N9 hne,List.length_cons];rcases h7 with h7|h7
  .omega
  have:(lD (l.drop (kY l))).length=0:=by
   rw[avv.2 (List.drop_eq_nil_of_le (by omega))];rfl
  omega
end Go.Plain
namespace Go.Plain
def bl(n:Nat):Nat:=if n=0 then 0 else n.log2+1
theorem VU(n:Nat):n<2^bl n:=by
 unfold bl;split
 next h=>subst h;decide
 exact Nat.lt_log2_self
theorem VW{n:Nat}(h:n≠0):1<=bl n/\2^(bl n-1)<=n:=by
 unfold bl;rw[if_neg h];exact⟨by omega,by simpa using Nat.log2_self_le h⟩
theorem wS{n k:Nat}:bl n<=k↔n<2^k:=by
 constructor
 .intro h;exact Nat.lt_of_lt_of_le (VU n) (Nat.pow_le_pow_right (by decide) h)
 intro h;by_cases h0:n=0
 .subst h0;simp[bl]
 obtain ⟨h1,h2⟩:=VW h0;have:2^(bl n-1)<2^k:=Nat.lt_of_le_of_lt h2 h;have:=(Nat.pow_lt_pow_iff_right (by decide)).1 this;omega
theorem aBA{n k:Nat}(h1:2^k<=n)(h2:n<2^(k+1)):bl n=k+1:=by
 have a:=wS.2 h2;have b:¬bl n<=k:=fun h=>by have:=wS.1 h;omega
 omega
theorem Vf{n:Nat}(h:n≠0)(k:Nat):bl (n*2^k)=bl n+k:=by
 obtain⟨h1,h2⟩:=VW h;have h3:=VU n;have hp:0<2^k:=Nat.pow_pos (by decide);have e:bl n+k=bl n-1+k+1:=by omega
 rw[e];apply aBA
 .rw[Nat.pow_add];exact Nat.mul_le_mul_right _ h2
 have e2:bl n-1+k+1=bl n+k:=by omega
 rw[e2,Nat.pow_add];exact Nat.mul_lt_mul_of_pos_right h3 hp
structure Rm where
 exp:Int
 vR:Nat
 srcs:List Nat
 deriving DecidableEq
def Rm.zero:Rm:=⟨0,0,[]⟩
def Rm.ok(r:Rm):Prop:=r.vR<4294967296/\∀c∈r.srcs,c<4294967296
def Rm.right(r:Rm):Prop:=(0<=r.exp/\r.exp<=63)/\r.vR<262144/\(r.exp=0\/131072<=r.vR)/\r.srcs.length<=255
instance Rm.aDu(r:Rm):Decidable r.right:=by unfold Rm.right;exact inferInstance
def Rm.num(r:Rm):Nat:=r.exp.toNat*262144+r.vR
def zS:List UInt8:=[82,69,77,66]
def Rm.bytes(r:Rm):List UInt8:=zS++(UInt8.ofNat r.srcs.length::(fq 3 r.num++words r.srcs))
def qp(e m:Nat):Nat:=if m=0 then e else min e (18-bl m)
def Gd(e m:Nat)(s:List Nat):Rm:= {exp:=((e-qp e m:Nat):Int),vR:=m*2^qp e m,srcs:=s}
theorem av4(e m:Nat)(s:List Nat)(he:e<=63)(hm:m<262144)(hs:s.length<=255):(Gd e m s).right:=by
 unfold Gd qp;by_cases h0:m=0
 .subst h0;simp[Rm.right];exact hs
 rw[if_neg h0];have hb:bl m<=18:=wS.2 hm;have h1:=VW h0;have h2:=VU m;refine⟨⟨by simp only;omega,by simp only;omega⟩,?_,?_,hs⟩
 .have h3:bl (m*2^min e (18-bl m))<=18:=by rw[Vf h0];omega
  exact wS.1 h3
 simp only;by_cases h4:e<=18-bl m
 .left;omega
 right;have h5:min e (18-bl m)=18-bl m:=by omega
 rw[h5];have h6:bl (m*2^(18-bl m))=18:=by rw[Vf h0];omega
 apply Classical.byContradiction;intro hlt;have:=wS (n:=m*2^(18-bl m)) (k:=17);rw[h6]at this;have:=this.2 (by omega);omega
def rP(b:List UInt8):Int:=
 if 65520<b.length\/b.length%4≠0 then 4 else if b.length<8 then 2 else if b.take 4≠zS then 6 else
 if(b.length-8)/4<at_ b 4 then 2 else if at_ b 4<(b.length-8)/4 then 4 else 0
def Rm.of(b:List UInt8):Rm:=Gd (Plain.num b 5 3/262144) (Plain.num b 5 3%262144) ((List.range (at_ b 4)).map fun i=>Plain.num b (8+4*i) 4)
def AA(b:List UInt8):Rm:=if rP b=0 then Rm.of b else Rm.zero
theorem axk{b:List UInt8}:rP b=0↔(b.length<=65520/\b.length%4=0)/\8<=b.length/\b.take 4=zS/\b.length=8+4*at_ b 4:=by
 unfold rP;split
 .simp;omega
 split
 .simp;omega
 split
 next h=>simp at h |-;intro _ _ _ h';exact absurd h' h
 .rename_i h3;simp only[ne_eq,Decidable.not_not]at h3;split
  .simp;omega
  split
  .simp;omega
  simp[h3];omega
theorem Rm.MP(r:Rm):r.bytes.length=8+4*r.srcs.length:=by
 simp only[Rm.bytes,zS,List.length_append,List.length_cons,List.length_nil,y9,ML];omega
theorem Rm.qL(r:Rm)(h:r.right):r.num<16777216:=by
 obtain⟨h1,h2,_⟩:=h;unfold Rm.num;omega
theorem Rm.axE(b:List UInt8):(Rm.of b).right/\(Rm.of b).ok/\(Rm.of b).srcs.length=at_ b 4:=by
 have hl:=gN b 4;have hn:=Plain.qL b 5 3;have hr:(Rm.of b).right:=av4 _ _ _ (by have:Plain.num b 5 3<16777216:=hn;omega) (Nat.mod_lt _ (by decide)) (by simp;omega);refine⟨hr,⟨?_,?_⟩,?_⟩
 .have:=hr.2.1;omega
 .intro c hc;simp only[Rm.of,Gd,List.mem_map,List.mem_range]at hc;obtain⟨i,_,rfl⟩:=hc;exact Plain.qL _ _ 4
 simp[Rm.of,Gd]
end Go.Plain
namespace Go.Plain
structure Pk where
 hd:Hd
 aQ:Nat
 ext:List UInt8
 pay:List UInt8
 pad:Nat
 deriving DecidableEq
def Pk.zero:Pk:=⟨Hd.zero,0,[],[],0⟩
def Pk.ok(k:Pk):Prop:=k.hd.ok/\k.aQ<65536
def Pk.sum(k:Pk):Nat:=12+4*k.hd.eU.length+k.pay.length+k.pad+if k.hd.ext then 4+k.ext.length else 0
def Pk.fits(k:Pk):Prop:=k.hd.right/\k.ext.length%4=0/\k.ext.length/4<=65535/\(k.hd.ext=false->k.aQ=0/\k.ext=[])/\(if k.hd.pad then 1<=k.pad/\k.pad<=255 else k.pad=0)
instance(k:Pk):Decidable k.fits:=by unfold Pk.fits;exact inferInstance
def Pk.right(k:Pk):Prop:=k.fits/\k.sum<=65535
instance(k:Pk):Decidable k.right:=by unfold Pk.right;exact inferInstance
def vS(k:Pk):List UInt8:=if k.hd.ext then fq 2 k.aQ++(fq 2 (k.ext.length/4)++k.ext)else []
def Dw(k:Pk)(t:List UInt8):List UInt8:=k.hd.bytes++(vS k++(k.pay++t))
def V4(n:Nat)(t:List UInt8):Prop:=t.length=n/\(n≠0->at_ t (n-1)=n)
def trail(n:Nat):List UInt8:=if n=0 then []else List.replicate (n-1) 0++ [UInt8.ofNat n]
def Pk.bytes(k:Pk):List UInt8:=Dw k (trail k.pad)
theorem aga{n:Nat}(h:n<=255):V4 n (trail n):=by
 unfold V4 trail;split
 next h=>subst h;simp
 refine ⟨by simp;omega,fun _=>?_⟩;simp only[at_,List.getD_eq_getElem?_getD];rw[List.getElem?_append_right (by simp)];simp;omega
def jR(b:List UInt8):Nat:=if b.length=0 then 0 else if at_ b (b.length-1)<1\/b.length<at_ b (b.length-1)then 0 else at_ b (b.length-1)
def iD(b:List UInt8):List UInt8:=if(Hd.of b).ext then(b.drop (hdN b+4)).drop (4*num b (hdN b+2) 2)else b.drop (hdN b)
def fE(b:List UInt8):Int:=
 if 65535<b.length then 4
 else if qb b≠0 then qb b
 else if(Hd.of b).ext=true/\(b.length<hdN b+4\/b.length<hdN b+4+4*num b (hdN b+2) 2)then 2
 else if(Hd.of b).pad=true/\jR (iD b)=0 then 5
 else 0
def jK(b:List UInt8):Nat:=if(Hd.of b).pad then jR (iD b)else 0
def dN(b:List UInt8):Pk:=
 {hd:=Hd.of b
  aQ:=if(Hd.of b).ext then num b (hdN b) 2 else 0
  ext:=if(Hd.of b).ext then(b.drop (hdN b+4)).take (4*num b (hdN b+2) 2)else []
  pay:=(iD b).take ((iD b).length-jK b)
  pad:=jK b}
def uR(b:List UInt8):Pk:=if fE b=0 then dN b else Pk.zero
def Mj(b:List UInt8):List UInt8:=if fE b=0 then(iD b).drop ((iD b).length-jK b)else []
theorem aua(k:Pk):(vS k).length=if k.hd.ext then 4+k.ext.length else 0:=by
 unfold vS;split<;>simp<;>omega
theorem MN(k:Pk)(t:List UInt8)(ht:t.length=k.pad):(Dw k t).length=k.sum:=by
 unfold Dw Pk.sum;simp only[List.length_append,Hd.MP,aua,ht];omega
theorem abt(b:List UInt8)(n m:Nat):(b.drop n).take m++b.drop (n+m)=b.drop n:=by rw[<-List.drop_drop,List.take_append_drop]
theorem OQ(b:List UInt8):jR b<=b.length/\jR b<=255/\(jR b≠0->at_ b (b.length-1)=jR b):=by
 unfold jR;have:=gN b (b.length-1);split
 .simp
 split
 .simp
 refine ⟨by omega,by omega,fun _=>rfl⟩
theorem Pk.same(b:List UInt8)(h:fE b=0):(dN b).right/\(dN b).ok/\V4 (dN b).pad ((iD b).drop ((iD b).length-jK b))/\b=Dw (dN b) ((iD b).drop ((iD b).length-jK b)):=by
 unfold fE at h;split at h
 .cases h
 rename_i hb;split at h
 next h2=>exact absurd h h2
 rename_i h2;have h2:qb b=0:=by simpa using h2
 split at h
 .cases h
 rename_i h3;split at h
 .cases h
 rename_i h4;clear h;obtain⟨s1,s2,s3,s4⟩:=Hd.same b h2;have hz:=N7.1 h2;have hN:hdN b=12+4*(at_ b 0%16):=by unfold hdN;rw[if_pos h2]
 have hlb:(Hd.of b).bytes.length=hdN b:=by rw[Hd.MP,s3,hN]
 have hsplit:b=(Hd.of b).bytes++b.drop (hdN b):=by
  rw[s4,<-hN,List.take_append_drop]
 obtain⟨t1,t2,t3⟩:=OQ (iD b);have hpd:jK b<=(iD b).length:=by unfold jK;split<;>omega
 have hx:b.drop (hdN b)=vS (dN b)++iD b/\(dN b).ext.length%4=0/\(dN b).ext.length/4<=65535/\(dN b).aQ<65536:=by
  unfold vS dN iD;simp only;by_cases he:(Hd.of b).ext=true
  .rw[if_pos he,if_pos he,if_pos he,if_pos he];have hlen:hdN b+4+4*num b (hdN b+2) 2<=b.length:=by
    have:¬(b.length<hdN b+4\/b.length<hdN b+4+4*num b (hdN b+2) 2):=fun hh=>h3 ⟨he,hh⟩;omega
   have hn:=qL b (hdN b+2) 2;have le:((b.drop (hdN b+4)).take (4*num b (hdN b+2) 2)).length=4*num b (hdN b+2) 2:=by
    simp;omega
   rw[le];refine⟨?_,by omega,by omega,qL b (hdN b) 2⟩;have e1:fq 2 (num b (hdN b) 2)=(b.drop (hdN b)).take 2:=HY (by omega);have e2:fq 2 (num b (hdN b+2) 2)=(b.drop (hdN b+2)).take 2:=HY (by omega);rw[show 4*num b (hdN b+2) 2/4=num b (hdN b+2) 2 by omega,e1,e2];rw[List.append_assoc,List.append_assoc,List.take_append_drop];have c1:(b.drop (hdN b+2)).take 2++b.drop (hdN b+4)=b.drop (hdN b+2):=by
    exact abt b (hdN b+2) 2
   have c2:(b.drop (hdN b)).take 2++b.drop (hdN b+2)=b.drop (hdN b):=by
    exact abt b (hdN b) 2
   rw[c1,c2]
  .rw[if_neg he,if_neg he,if_neg he,if_neg he];exact⟨by simp,by simp,by simp,by omega⟩
 obtain⟨x1,x2,x3,x4⟩:=hx;have hpay:(dN b).pay++(iD b).drop ((iD b).length-jK b)=iD b:=List.take_append_drop _ _;have hb2:b=Dw (dN b) ((iD b).drop ((iD b).length-jK b)):=by
  unfold Dw;rw[hpay,<-x1];exact hsplit
 have htl:((iD b).drop ((iD b).length-jK b)).length=(dN b).pad:=by
  rw[List.length_drop];show _=jK b;omega
 have hsum:=MN (dN b) _ htl;rw[<-hb2]at hsum;have aBt:if(dN b).hd.pad then 1<=(dN b).pad/\(dN b).pad<=255 else(dN b).pad=0:=by
  show if(Hd.of b).pad then 1<=jK b/\jK b<=255 else jK b=0
  unfold jK;by_cases hq:(Hd.of b).pad=true
  .rw[if_pos hq,if_pos hq];have:jR (iD b)≠0:=fun hh=>h4 ⟨hq,hh⟩;omega
  .rw[if_neg hq,if_neg hq]
 refine⟨⟨⟨s1,x2,x3,fun he=>?_,aBt⟩,by omega⟩,⟨s2,x4⟩,⟨htl,fun hne=>?_⟩,hb2⟩
 .have he:(Hd.of b).ext=false:=he;simp[dN,he]
 have hpp:(dN b).pad=jK b:=rfl;rw[hpp]at hne |-;have hq:jK b=jR (iD b):=by
  unfold jK at hne |-;split at hne
  next hh=>rw[if_pos hh]
  .exact absurd rfl hne
 have:=t3 (by omega);rw[<-hq]at this;have e:at_ ((iD b).drop ((iD b).length-jK b)) (jK b-1)=at_ (iD b) ((iD b).length-1):=by
  simp only[at_,List.getD_eq_getElem?_getD,List.getElem?_drop];rw[show(iD b).length-jK b+(jK b-1)=(iD b).length-1 by omega]
 exact e.trans this
end Go.Plain
