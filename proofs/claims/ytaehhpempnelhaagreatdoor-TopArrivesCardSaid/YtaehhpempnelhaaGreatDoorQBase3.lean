/-
  My own general texts, one behind the other: a generator of conditions over the model, with its proof, and plain lemmas. No condition on the program.
-/
import Derived.Test.YtaehhpempnelhaaGreatDoorQBase2
import Derived.ProofKit
import Derived.OpenShut
import Derived.ShutString
import Derived.ChangeOld
import Derived.Below
namespace Go.Vc
section
variable{P:Program}{cfg:dA}{ev:Ev}{pc:aM}{nv:Nat}{o:Oper}
theorem GQ(c d:List dM)(bs:List aG):aW (c++d) bs=aW d (aW c bs):=by simp[aW]
theorem anD(bs:List aG):tq P cfg o ev bs=(qW P cfg o ev bs).map fun y=>(y.1,aW y.2.1 bs,y.2.2):=by
 have h1:∀r es e i fo s bZ x,DK bs r es e i fo s bZ x=(DL bs r es e i fo s bZ x).map fun cs=>aW cs bs:=by
  intro r es e i fo s bZ x;unfold DK DL;cases hx:iF (aY bs) [] x with
  |none=>rfl
  |some y=>
   obtain ⟨s',ex,f⟩:=y;simp only;by_cases hc:(decide (s=s')&& !f.contains r)=true
   .simp only[hc,if_true];cases bZ with
    |none=>
     simp only;by_cases he:s=es
     .rw[if_pos he,if_pos he,uN,GQ,rR];rfl
     .rw[if_neg he,if_neg he];rfl
    |some j=>
     simp only;by_cases he:es.bZ j=some (s,fo)
     .rw[if_pos he,if_pos he,uN,GQ,rR];rfl
     .rw[if_neg he,if_neg he];rfl
   .rw[if_neg hc,if_neg hc];rfl
 have h2:∀r cs fo s x,DN bs r cs fo s x=(DR bs r cs fo s x).map fun cs=>aW cs bs:=by
  intro r cs fo s x;unfold DN DR;cases x with
  |dat s' ex=>simp only;split<;>rfl
  |full r' n=>
   simp only;cases rowOf (aY bs) [] r' with
   |none=>rfl
   |some y=>simp only;split<;>rfl
  |_=>rfl
 have h3:∀t a x,EH P bs t a x=(tZ P bs t a x).map fun cs=>aW cs bs:=by
  intro t a x;unfold EH tZ;cases a with
  |none=>rfl
  |some sa=>
   cases x with
   |none=>cases sa<;>rfl
   |some x=>
    cases sa with
    |ref r i fo s bZ=>
     simp only;by_cases hf:iB P t s=true
     .rw[if_pos hf,if_pos hf];cases hb:bs[r]? with
      |none=>rfl
      |some k=>
       obtain ⟨lb,fz,p⟩:=k;cases lb with
       |row es e=>cases fz<;>cases p<;>first|rfl|exact h1 ..
       |box cs=>cases fz<;>cases p<;>first|rfl|exact h2 ..
       |_=>rfl
     .rw[if_neg hf,if_neg hf];rfl
    |_=>rfl
 have h4:∀k ts d a b,ED P k bs ts d a b=(BN P k bs ts d a b).map fun y=>(y.1,aW y.2.1 bs,y.2.2):=by
  intro k ts d a b;unfold ED BN;cases nu P (ts.getD 0 0) with
  |none=>rfl
  |some et=>
   cases a with
   |none=>rfl
   |some sa=>
    cases b with
    |none=>rfl
    |some sb=>
     simp only;cases oV P bs et (ts.getD 1 0) sb with
     |none=>rfl
     |some y=>
      obtain ⟨s,m,f⟩:=y;simp only;by_cases hc:(decide (ts.size=2)&&(zeroE P et s).isSome&&iB P et s&&s.size !=0&&P.bytesOf et !=0)=true
      .rw[if_pos hc,if_pos hc];cases sa with
       |full r n=>
        simp only;cases ownRow bs r with
        |none=>rfl
        |some z=>
         simp only;cases k with
         |true=>simp only[if_true];split<;>rfl
         |false=>simp only[rA,if_false];split<;>rfl
       |dat s' e=>
        cases s' with
        |sl s''=>cases e with
         |aK=>simp only;split<;>rfl
         |_=>rfl
        |_=>rfl
       |_=>rfl
      .rw[if_neg hc,if_neg hc];rfl
 have h5:∀ts a b,FK P bs ts a b=(Ao P bs ts a b).map fun y=>(y.1,aW y.2 bs):=by
  intro ts a b;unfold FK Ao;cases nu P (ts.getD 0 0) with
  |none=>rfl
  |some et=>
   cases a with
   |none=>rfl
   |some sa=>
    cases b with
    |none=>rfl
    |some sb=>
     simp only;cases uE P bs (ts.getD 1 0) sb with
     |none=>rfl
     |some y=>
      cases Kg sa with
      |none=>rfl
      |some z=>
       simp only;cases ownRow bs z.1 with
       |none=>rfl
       |some u=>simp only;split<;>rfl
 unfold tq qW;generalize o.op=op;cases op<;>(try rfl)
 case store t a x=>
  simp only[h3];cases tZ P bs t (ev [] a 0) (ev [] x t)<;>rfl
 case call c=>
  obtain ⟨callee,args,ts⟩:=c;cases callee with
  |builtin b=>
   cases b<;>(try rfl)
   case append=>
    simp only;obtain ⟨al⟩:=args;cases o.dst with
    |none=>match al with
     | []=>rfl
     | [_]=>rfl
     | [_,_]=>rfl
     |_::_::_::_=>rfl
    |some d=>match al with
     | []=>rfl
     | [_]=>rfl
     | [a,b]=>exact h4 ..
     |_::_::_::_=>rfl
   case copy=>
    simp only;obtain ⟨al⟩:=args;match al with
    | []=>rfl
    | [_]=>rfl
    | [a,b]=>
     simp only[h5];cases Ao P bs ts (ev [] a (ts.getD 0 0)) (ev [] b (ts.getD 1 0))<;>rfl
    |_::_::_::_=>rfl
  |value f=>rfl
  |invoke r m=>rfl
 case convert src dst x=>
  simp only;by_cases hsd:src=dst
  .rw[if_pos hsd,if_pos hsd];cases yh P bs src (ev [] x src) with
   |none=>rfl
   |some y=>rfl
  .rw[if_neg hsd,if_neg hsd];rfl
 case mapUpdate t m k x=>
  simp only;cases yg P bs t (ev [] m t) (nU (ev [] k 0)) (ev [] x 0) with
  |none=>rfl
  |some y=>rfl
 case next it b=>
  cases b with
  |false=>rfl
  |true=>
   simp only;cases x9 bs (ev [] it 0) with
   |none=>rfl
   |some y=>rfl
def oU(dR bs:List aG):Prop:=∀(r:Nat) (k:aG),dR[r]?=some k->k.lb≠ .none->bs[r]?=some k
theorem oU.rb{dR bs:List aG}(h:oU dR bs):lQ (aY dR) (aY bs):=by
 intro r b hb hn;unfold aY at hb |-;cases hk:dR[r]? with
 |none=>simp[hk] at hb
 |some k=>
  simp[hk] at hb;subst hb;rw[h r k hk hn]
theorem Yn{dR bs:List aG}(h:oU dR bs){r:Nat}{y:Sh×E}(hr:ownRow dR r=some y):ownRow bs r=some y:=by
 obtain ⟨s,e⟩:=y;have:=h r _ (zl hr) (by simp);simp[ownRow,this]
theorem ZX{dR bs : List aG}(h : oU dR bs){t : TypeId}{x : SX}{y : Sh × E × List Nat}(hs : uE P dR t x = some y) : uE P bs t x = some y := by
  unfold uE at hs |-;cases hu : P.underlying t with
  | none => rw [hu] at hs; cases x with
    | dat s e => cases s <;> simp at hs
    | _ => simp at hs
  | some d =>
    rw [hu] at hs;cases d with
    | slice et => cases x with
      | dat s e =>
        cases s <;>
          (simp only at hs |-
           split at hs
           . rename_i hd; rw [BJ h.rb hd]; exact hs
           . simp at hs)
      | _ =>
        simp only at hs |-;split at hs
        . rename_i hd; rw [BJ h.rb hd]; exact hs
        . simp at hs
    | string => cases x with
      | dat s e => cases s <;> first | exact hs | (simp at hs)
      | _ => simp at hs
    | _ => cases x with
      | dat s e => cases s <;> simp at hs
      | _ => simp at hs
theorem ala{dR bs:List aG}(h:oU dR bs){t:TypeId}{a x:Option SX}{cs:List dM}(hs:tZ P dR t a x=some cs):tZ P bs t a x=some cs:=by
 unfold tZ at hs |-;split at hs
 .split at hs
  .rename_i hf;simp only[hf,if_true];split at hs
   .rename_i hb;rw[h _ _ hb (by simp)];simp only;unfold DL at hs |-;split at hs
    .rename_i hd;rw[BJ h.rb hd];exact hs
    .simp at hs
   .rename_i hb;rw[h _ _ hb (by simp)];simp only;unfold DR at hs |-;split at hs
    .exact hs
    .split at hs
     .rename_i hr;rw[tO h.rb hr];exact hs
     .simp at hs
    .simp at hs
   .simp at hs
  .simp at hs
 .simp at hs
theorem alh(P:Program)(et t:TypeId)(x:SX):(∃z,∀bs,oV P bs et t x=z)\/∀bs,oV P bs et t x=uE P bs t x:=by
 cases hu:P.underlying t with
 |none=>
  right;intro bs;unfold oV;rw[hu];cases x with
  |dat s e=>cases s<;>rfl
  |_=>rfl
 |some d=>
  cases x with
  |dat s e=>cases s with
   |int k=>cases d with
    |int q=>left;exact ⟨_,fun bs=>by unfold oV;rw[hu]⟩
    |_=>right;intro bs;unfold oV;rw[hu]
   |_=>right;intro bs;unfold oV;rw[hu]
  |_=>right;intro bs;unfold oV;rw[hu]
theorem ani{dR bs:List aG}(h:oU dR bs){et t:TypeId}{x:SX}{y:Sh×E×List Nat}(hs:oV P dR et t x=some y):oV P bs et t x=some y:=by
 rcases alh P et t x with ⟨z,hz⟩|hz
 .rw[hz] at hs |-;exact hs
 .rw[hz] at hs |-;exact ZX h hs
theorem ak0{dR bs:List aG}(h:oU dR bs){k:Bool}{ts:Array TypeId}{d:Nat}(hd:dR[d]?=bs[d]?){a b:Option SX}{y:SX×List dM×List Ob}(hs:BN P k dR ts d a b=some y):BN P k bs ts d a b=some y:=by
 have hfree:nT dR d=nT bs d:=by unfold nT;rw[hd]
 unfold BN at hs |-;split at hs
 .split at hs
  .simp at hs
  .rename_i hsrc;rw[ani h hsrc];simp only;split at hs
   .rename_i hc;rw[if_pos hc];split at hs
    .rw[hfree] at hs;exact hs
    .split at hs
     .rename_i hr;rw[Yn h hr];simp only;rw[hfree] at hs;exact hs
     .simp at hs
    .simp at hs
   .simp at hs
 .simp at hs
theorem amU{dR bs:List aG}(h:oU dR bs){ts:Array TypeId}{a b:Option SX}{y:SX×List dM}(hs:Ao P dR ts a b=some y):Ao P bs ts a b=some y:=by
 unfold Ao at hs |-;split at hs
 .split at hs
  .rename_i hsrc hdst;rw[ZX h hsrc,hdst];simp only;split at hs
   .rename_i hr;rw[Yn h hr];exact hs
   .simp at hs
  .simp at hs
 .simp at hs
theorem amD{dR bs:List aG}(h:oU dR bs){t:TypeId}{m x:Option SX}{k:Option (IntKind×E)}{y:Nat×aG}(hs:yg P dR t m k x=some y):yg P bs t m k x=some y:=by
 unfold yg at hs |-;split at hs
 .split at hs
  .rename_i hb;rw[h _ _ hb (by simp)];exact hs
  .simp at hs
 .simp at hs
theorem amC{dR bs:List aG}(h:oU dR bs){it:Option SX}{y:SX×Nat×aG}(hs:x9 dR it=some y):x9 bs it=some y:=by
 unfold x9 at hs |-;split at hs
 .split at hs
  .rename_i hb;rw[h _ _ hb (by simp)];exact hs
  .simp at hs
 .simp at hs
theorem ako{dR bs:List aG}(h:oU dR bs){r:Nat}{y:Sh×E}(hs:ownRow dR r=some y):ownRow bs r=some y:=by
 obtain ⟨s,e⟩:=y;have h1:=zl hs;have h2:=h _ _ h1 (by simp);unfold ownRow;rw[h2]
theorem amG{dR bs:List aG}(h:oU dR bs){t:TypeId}{x:Option SX}{y:Sh×E×Nat}(hs:yh P dR t x=some y):yh P bs t x=some y:=by
 unfold yh at hs |-;split at hs
 .split at hs
  .rename_i hu hb;rw[hu,ako h hb];exact hs
  .simp at hs
 .simp at hs
theorem anE{dR bs:List aG}(h:oU dR bs)(hd:∀d,o.dst=some d->dR[d]?=bs[d]?){y:SX×List dM×List Ob}(hs:qW P cfg o ev dR=some y):qW P cfg o ev bs=some y:=by
 unfold qW at hs |-;split at hs
 .split at hs
  .rename_i hst;rw[ala h hst];exact hs
  .simp at hs
 .split at hs
  .rename_i hdst;exact ak0 h (hd _ hdst) hs
  .simp at hs
 .split at hs
  .split at hs
   .rename_i hc;rw[amU h hc];exact hs
   .simp at hs
  .simp at hs
 .split at hs
  .rename_i hsd;rw[if_pos hsd];split at hs
   .rename_i hb;rw[amG h hb];exact hs
   .simp at hs
  .simp at hs
 .split at hs
  .rename_i hb;rw[amD h hb];exact hs
  .simp at hs
 .split at hs
  .rename_i hb;rw[amC h hb];exact hs
  .simp at hs
 .simp at hs
theorem wW(F:List Nat)(bs:List aG)(r:Nat):(iO F bs)[r]?=(bs[r]?).map fun b=>if F.contains r then b else adM:=by
 simp[iO,List.getElem?_mapIdx]
theorem D5(F:List Nat)(bs:List aG):oU (iO F bs) bs:=by
 intro r k hk hn;rw[wW] at hk;cases hb:bs[r]? with
 |none=>simp[hb] at hk
 |some b=>
  simp only[hb,uN,bQ] at hk;split at hk
  .rw[hk]
  .subst hk;exact absurd rfl hn
theorem anF{bs:List aG}{y:SX×List dM×List Ob×Nat}(h:sK P cfg o ev bs nv=some y):tu P cfg o ev bs nv=some (y.1,aW y.2.1 bs,y.2.2.1,y.2.2.2):=by
 unfold sK at h;unfold tu;split at h
 .rename_i f args ts d hop hd;split at h
  .cases h
  .rename_i hg;split at h
   .rename_i hf;simp only[hop,hd,if_neg hg,if_pos hf];unfold Aa;split at h
    .rename_i s aF hr
     (try simp only[hr])
     split at h
     .rename_i l fz ha
      (try simp only[ha])
      split at h
      .rename_i hc;rw[if_pos hc];obtain rfl:=sS h;simp only[GQ,rR];rfl
      .cases h
     .cases h
    .cases h
   .cases h
 .cases h
theorem anG{dR bs:List aG}(hb:lQ (aY dR) (aY bs))(hd:∀d,o.dst=some d->dR[d]?=bs[d]?){y:SX×List dM×List Ob×Nat}(h:sK P cfg o ev dR nv=some y):sK P cfg o ev bs nv=some y:=by
 unfold sK at h |-;split at h
 .rename_i f args ts d hop hdst;split at h
  .cases h
  .rename_i hg;rw[if_neg hg];split at h
   .rename_i hf;rw[if_pos hf];split at h
    .rename_i s aF hr;split at h
     .rename_i l fz ha;rw[Eh hb ha];simp only;have:nT bs d=nT dR d:=by unfold nT;rw[hd d hdst]
      rw[this];exact h
     .cases h
    .cases h
   .cases h
 .cases h
theorem alA{bs:List aG}{ev':Ev}(h:iY o.op.operands.toList ev ev'):sK P cfg o ev bs nv=sK P cfg o ev' bs nv:=by
 unfold sK;split
 .rename_i f args ts d hop hdst;rw[hop] at h;have ha:iY args.toList ev ev':=fun x hx=>h x (by simp[Op.operands,Call.operands];exact .inr (by simpa using hx));split
  .rfl
  .split
   .split
    .rw[zf ha]
    .rfl
   .rfl
 .rfl
theorem akS{F:List Nat}{bs:List aG}(hd:∀d,o.dst=some d->F.contains d=true){y:SX×List dM×Nat×List Ob}(h:coreC P cfg o pc ev (iO F bs) nv=some y):coreC P cfg o pc ev bs nv=some y:=by
 have hdd:∀d,o.dst=some d->(iO F bs)[d]?=bs[d]?:=by
  intro d e;rw[wW,hd d e];cases bs[d]?<;>rfl
 unfold coreC at h |-;split at h
 .rename_i hc;rw[if_pos hc];split at h
  .rename_i hp;rw[if_pos hp];cases hw:qW P cfg o ev (iO F bs) with
   |none=>simp[hw] at h
   |some z=>rw[hw] at h;rw[anE (D5 F bs) hdd hw];exact h
  .simp at h
 .rename_i hc;rw[if_neg hc];split at h
  .rename_i hg;rw[if_pos hg];split at h
   .rename_i hp;rw[if_pos hp];cases hw:sK P cfg o ev (iO F bs) nv with
    |none=>simp[hw] at h
    |some z=>rw[hw] at h;rw[anG (D5 F bs).rb hdd hw];exact h
   .simp at h
  .rename_i hg;rw[if_neg hg];cases hx:fA P cfg o pc ev (aY (iO F bs)) nv with
   |none=>simp[hx] at h
   |some out=>
    rw[hx] at h;rw[acp (D5 F bs).rb (fun d e hn=>by unfold gW aY at hn |-;rw[hdd d e] at hn;exact hn) hx];exact h
theorem amS{bs:List aG}{x:SX}{cs:List dM}{n:Nat}{ob:List Ob}(h:coreC P cfg o pc ev bs nv=some (x,cs,n,ob)):core P cfg o pc ev bs nv=some (x,aW cs bs,n,ob):=by
 unfold coreC at h;unfold core;split at h
 .rename_i hc;rw[if_pos hc];split at h
  .rename_i hp;rw[if_pos hp];rw[anD];cases hw:qW P cfg o ev bs with
   |none=>simp[hw] at h
   |some z=>
    obtain ⟨x',cs',ob'⟩:=z;simp only[hw] at h;simp only[uN];split at h
    .rename_i hv;simp at h;obtain ⟨rfl,rfl,rfl,rfl⟩:=h;rw[if_pos hv]
    .simp at h
  .simp at h
 .rename_i hc;rw[if_neg hc];split at h
  .rename_i hg;rw[if_pos hg];split at h
   .rename_i hp;rw[if_pos hp];cases hw:sK P cfg o ev bs nv with
    |none=>simp[hw] at h
    |some z=>
     obtain ⟨x',cs',ob',n'⟩:=z;rw[anF hw];simp only[hw] at h;simp only;split at h
     .rename_i hv;simp at h;obtain ⟨rfl,rfl,rfl,rfl⟩:=h;rw[if_pos hv]
     .simp at h
   .simp at h
  .rename_i hg;rw[if_neg hg];cases hx:fA P cfg o pc ev (aY bs) nv with
   |none=>simp[hx] at h
   |some out=>
    simp only[hx] at h |-;split at h
    .rename_i hv;simp at h;obtain ⟨rfl,rfl,rfl,rfl⟩:=h;rw[if_pos hv]
    .simp at h
theorem Lx{φ:Oper->FP}{ops:List Oper}{S:SS}{y:SS×List Ob}(h:nZ P cfg φ ops o S=some y):oQ P cfg ops o S=some y:=by
 unfold nZ at h;split at h
 .simp at h
 .rename_i pc hg;cases hc:coreC P cfg o pc (S.ev P) (iO (φ o).F S.blks) S.nv with
  |none=>simp[hc] at h
  |some z=>
   obtain ⟨x,cs,n,ob⟩:=z;simp only[hc] at h;by_cases hok:(cs.all (yj (φ o))&&FJ (φ o) o)=true
   .rw[if_pos hok] at h;simp only[aP] at hok;simp only[bQ] at h;subst h;refine DI.2 ⟨pc,x,_,n,hg,amS (akS (fun d e=>?_) hc),rfl⟩;have:=hok.2;simp only[FJ,e] at this;exact this
   .rw[if_neg hok] at h;cases h
theorem aoa(c d:dM)(h:(match c,d with| .put r _,.put q _=>r≠q| .put r _,.aV q=>r≠q| .aV r,.put q _=>r≠q| .aV _,.aV _=>True))(bs:List aG):c.run (d.run bs)=d.run (c.run bs):=by
 apply CY;intro i;cases c with
 |put r b=>cases d with
  |put q b'=>
   simp only[dM.run];simp only at h;rw[List.set_comm _ _ (fun e=>h e.symm)]
  |aV q=>
   simp only[dM.run,CZ,List.getElem?_modify,List.length_modify];simp only at h;by_cases h1:r=i<;>by_cases h2:q=i<;>simp_all
 |aV r=>cases d with
  |put q b'=>
   simp only[dM.run,CZ,List.getElem?_modify,List.length_modify];simp only at h;by_cases h1:r=i<;>by_cases h2:q=i<;>simp_all
  |aV q=>
   simp only[dM.run,List.getElem?_modify];by_cases h1:r=i<;>by_cases h2:q=i<;>simp_all
theorem Vv(c:dM):∀(ds:List dM) (bs:List aG),(∀d∈ds,∀bs,c.run (d.run bs)=d.run (c.run bs))->c.run (aW ds bs)=aW ds (c.run bs)
 | [],bs,_=>rfl
 |d::ds,bs,h=>by
  show c.run (aW ds (d.run bs))=aW ds (d.run (c.run bs));rw[Vv c ds (d.run bs) (fun d' hd'=>h d' (by simp[hd'])),h d (by simp) bs]
theorem Vw:∀(cs ds:List dM) (bs:List aG),(∀c∈cs,∀d∈ds,∀bs,c.run (d.run bs)=d.run (c.run bs))->aW cs (aW ds bs)=aW ds (aW cs bs)
 | [],ds,bs,_=>rfl
 |c::cs,ds,bs,h=>by
  show aW cs (c.run (aW ds bs))=aW ds (aW cs (c.run bs));rw[Vv c ds bs (h c (by simp)),Vw cs ds (c.run bs) (fun c' hc'=>h c' (by simp[hc']))]
theorem zG{a b:List Nat}(h:apart a b=true){r q:Nat}(hr:r∈a)(hq:q∈b):r≠q:=by
 intro e;subst e;simp only[apart,nE,Bool.not_eq_true'] at h;have:=h r hr;simp[hq] at this
theorem Xh:∀(cs:List dM) (bs:List aG) (r:Nat),(∀c∈cs,(match c with| .put q _=>q≠r| .aV q=>q≠r))->(aW cs bs)[r]?=bs[r]?
 | [],_,_,_=>rfl
 |c::cs,bs,r,h=>by
  show (aW cs (c.run bs))[r]?=_;rw[Xh cs _ r (fun c' hc'=>h c' (by simp[hc']))];have:=h c (by simp);cases c with
  |put q b=>simp only[dM.run];exact dN this
  |aV q=>simp only[dM.run,List.getElem?_modify];simp only at this;simp[this]
theorem Ye:∀(cs:List dM) (bs:List aG) (r:Nat),(∀c∈cs,(match c with| .put q _=>q≠r| .aV _=>True))->aY (aW cs bs) r=aY bs r
 | [],_,_,_=>rfl
 |c::cs,bs,r,h=>by
  show aY (aW cs (c.run bs)) r=_;rw[Ye cs _ r (fun c' hc'=>h c' (by simp[hc']))];have:=h c (by simp);cases c with
  |put q b=>simp only[dM.run,aY];rw[dN this]
  |aV q=>
   simp only[dM.run,aY,List.getElem?_modify];cases bs[r]? with
   |none=>rfl
   |some k=>by_cases hq:q=r<;>simp[hq]
theorem akR{F:List Nat}{bs bs':List aG}(h:∀r,r∈F->bs'[r]?=bs[r]?)(hl:bs'.length=bs.length):iO F bs'=iO F bs:=by
 apply CY;intro r;rw[wW,wW];by_cases hr:r∈F
 .rw[h r hr]
 .have hc:F.contains r=false:=by simpa using hr
  simp only[hc];by_cases hlt:r<bs.length
  .rw[iK hlt,iK (by omega)];rfl
  .rw[C8 (by omega),C8 (by omega)]
theorem Gx:∀(cs:List dM) (bs:List aG),(aW cs bs).length=bs.length
 | [],_=>rfl
 |c::cs,bs=>by
  show (aW cs (c.run bs)).length=_;rw[Gx cs];cases c<;>simp[dM.run]
theorem anp{F:List Nat}{bs bs':List aG}(h:∀r,r∈F->aY bs' r=aY bs r)(hl:bs'.length=bs.length):aY (iO F bs')=aY (iO F bs):=by
 funext r
 unfold aY at h |-;rw[wW,wW];by_cases hr:r∈F
 .have hc:F.contains r=true:=by simpa using hr
  have:=h r hr;simp only[hc,if_true];cases h1:bs'[r]?<;>cases h2:bs[r]?<;>simp[h1,h2] at this |- <;>exact this
 .have hc:F.contains r=false:=by simpa using hr
  simp only[hc];by_cases hlt:r<bs.length
  .rw[iK hlt,iK (by omega)];rfl
  .rw[C8 (by omega),C8 (by omega)]
theorem XM{bs:List aG}{ev':Ev}(h:iY o.op.operands.toList ev ev'):coreC P cfg o pc ev bs nv=coreC P cfg o pc ev' bs nv:=by
 have hw:qW P cfg o ev bs=qW P cfg o ev' bs:=by
  unfold qW;generalize o.op=op at h;cases op<;>simp only[Op.operands] at h<;>(try rfl)
  case store t a x=>
   simp only;rw[h a (by simp),h x (by simp)]
  case call c=>
   obtain ⟨callee,args,ts⟩:=c;have ha:iY args.toList ev ev':=fun x hx=>h x (by simp[Call.operands];exact .inr (by simpa using hx));cases callee with
   |builtin b=>
    cases b<;>simp only
    .split
     .rename_i x y d hl hd;rw[ha x (by simp[hl]),ha y (by simp[hl])]
     .rfl
    .split
     .rename_i x y hl;rw[ha x (by simp[hl]),ha y (by simp[hl])]
     .rfl
   |value f=>rfl
   |invoke r m=>rfl
  case convert src dst x=>
   simp only;rw[h x (by simp)]
  case mapUpdate t m k x=>
   simp only;rw[h m (by simp),h k (by simp),h x (by simp)]
  case next it b=>
   cases b with
   |true=>simp only;rw[h it (by simp)]
   |false=>rfl
 unfold coreC;rw[hw,Zf h,alA h]
theorem XO{F:List Nat}{bs:List aG}{cs:List dM}{mD:Nat}(hput:∀c∈cs,∀r∈F,(match c with| .put q _=>q≠r| .aV q=>Db cfg o=true->q≠r))(hn:mD=nv\/wL cfg o=false):
  coreC P cfg o pc ev (iO F (aW cs bs)) mD=coreC P cfg o pc ev (iO F bs) nv:=by
 unfold coreC;have same:Db cfg o=true->iO F (aW cs bs)=iO F bs:=fun hw=>by
  refine akR (fun r hr=>Xh cs bs r fun c hc=>?_) (Gx cs bs);have:=hput c hc r hr;cases c with
  |put q b=>exact this
  |aV q=>exact this hw
 by_cases hw:cls cfg o= .W
 .rw[if_pos hw,if_pos hw,same (by simp[Db,hw])]
 .by_cases hg:cls cfg o= .G
  .have rG:mD=nv:=by
    rcases hn with h|h
    .exact h
    .simp[wL,hg] at h
   rw[if_neg hw,if_neg hw,if_pos hg,if_pos hg,same (by simp[Db,hg]),rG]
  .have e:aY (iO F (aW cs bs))=aY (iO F bs):=by
    refine anp (fun r hr=>Ye cs bs r fun c hc=>?_) (Gx cs bs);have:=hput c hc r hr;cases c with
    |put q b=>exact this
    |aV q=>trivial
   rw[if_neg hw,if_neg hw,if_neg hg,if_neg hg,e];have e2:fA P cfg o pc ev (aY (iO F bs)) mD=fA P cfg o pc ev (aY (iO F bs)) nv:=by
    rcases hn with h|h
    .rw[h]
    .exact ER (by simp[wL] at h;exact h.1)
   rw[e2]
def jX(b:RB):Option (Option Sh×aM):=match b with|⟨.row s _,p⟩=>some (some s,p)|⟨.box _,p⟩=>some (none,p)|_=>none
theorem Y8{rb cu:Rb}(h:∀r,(rb r).bind jX=(cu r).bind jX)(r:Nat):(rowOf rb pc r).map (·.1)=(rowOf cu pc r).map (·.1):=by
 have h:=h r;have key:∀rb:Rb,(rowOf rb pc r).map (·.1)=((rb r).bind jX).bind fun y=>if tV y.2 pc then y.1 else none:=by
  intro rb;unfold rowOf;cases rb r with
  |none=>rfl
  |some k=>
   obtain ⟨lb,p⟩:=k;cases lb with
   |row s e=>
    simp only[jX,Option.bind_some];split<;>rfl
   |box cs=>
    simp only[jX,Option.bind_some];split<;>rfl
   |_=>rfl
 rw[key,key,h]
theorem amH{rb cu:Rb}(h:∀r,(rb r).bind jX=(cu r).bind jX)(r:Nat):mJ rb pc r=mJ cu pc r:=by
 have key:∀rb:Rb,mJ rb pc r=match (rb r).bind jX with|some y=>tV y.2 pc|none=>false:=by
  intro rb;unfold mJ;cases rb r with
  |none=>rfl
  |some k=>
   obtain ⟨lb,p⟩:=k;cases lb<;>rfl
 rw[key,key,h]
theorem akB{rb cu:Rb}(h:∀r,(rb r).bind jX=(cu r).bind jX)(t:TypeId)(x:Option SX)(i:Option (IntKind×E)):vC P rb pc t x i=vC P cu pc t x i:=by
 unfold vC;cases nu P t with
 |none=>rfl
 |some et=>
  cases x with
  |none=>rfl
  |some x=>
   cases i with
   |none=>cases x<;>first|rfl|(rename_i sh _;cases sh<;>rfl)
   |some i=>
    cases x with
    |dat sh e=>cases sh<;>rfl
    |full r n=>
     have h1:=Y8 (pc:=pc) h r;simp only;cases h2:rowOf rb pc r<;>cases h3:rowOf cu pc r<;>simp only[h2,h3,Option.map_none,uN,reduceCtorEq,bQ] at h1 |-;rw[h1]
    |view r off n=>
     have h1:=Y8 (pc:=pc) h r;simp only;cases h2:rowOf rb pc r<;>cases h3:rowOf cu pc r<;>simp only[h2,h3,Option.map_none,uN,reduceCtorEq,bQ] at h1 |-;rw[h1]
    |_=>rfl
theorem alI{rb cu:Rb}(h:∀r,(rb r).bind jX=(cu r).bind jX)(t:TypeId)(x:Option SX)(i:Option (IntKind×E)):vI P rb pc t x i=vI P cu pc t x i:=by
 unfold vI;split
 .unfold vZ;simp only[amH h]
 .exact akB h t x i
theorem aaA{bs bs':List aG}{mD:Nat}(ho:J2 o=true)(h:∀r,(aY bs' r).bind jX=(aY bs r).bind jX):coreC P cfg o pc ev bs' mD=coreC P cfg o pc ev bs nv:=by
 unfold J2 at ho;split at ho
 .rename_i t x i hop;have hc:cls cfg o= .R:=by simp[cls,hop]
  unfold coreC;simp only[hc,reduceCtorEq,if_false,fA,jA,sI,hop,alI h]
 .cases ho
theorem X8{bs:List aG}{y:SX×List dM×Nat×List Ob}(ho:JZ o=true)(h:coreC P cfg o pc ev bs nv=some y):∃(f:List Nat) (r:Nat) (k k':aG),y.2.1=f.map .aV++ [.put r k']/\bs[r]?=some k/\k.lb≠ .none/\jX ⟨k'.lb,k'.bM⟩=jX ⟨k.lb,k.bM⟩:=by
 unfold JZ at ho;split at ho
 .rename_i t a x hop;have hc:cls cfg o= .W:=by simp[cls,hop]
  unfold coreC at h;rw[if_pos hc] at h;split at h
  .have key:∀cs,tZ P bs t (ev [] a 0) (ev [] x t)=some cs->∃(f:List Nat) (r:Nat) (k k':aG),cs=f.map .aV++ [.put r k']/\bs[r]?=some k/\k.lb≠ .none/\jX ⟨k'.lb,k'.bM⟩=jX ⟨k.lb,k.bM⟩:=by
    intro cs hs;unfold tZ at hs;split at hs
    .split at hs
     .split at hs
      .rename_i hb;unfold DL at hs;split at hs
       .split at hs
        .split at hs
         .split at hs
          .simp at hs;exact ⟨_,_,_,_,hs.symm,hb,by simp,rfl⟩
          .simp at hs
         .split at hs
          .simp at hs;exact ⟨_,_,_,_,hs.symm,hb,by simp,rfl⟩
          .simp at hs
        .simp at hs
       .simp at hs
      .rename_i hb;unfold DR at hs;split at hs
       .split at hs
        .simp at hs;exact ⟨[],_,_,_,hs.symm,hb,by simp,rfl⟩
        .simp at hs
       .split at hs
        .split at hs
         .simp at hs;exact ⟨[],_,_,_,hs.symm,hb,by simp,rfl⟩
         .simp at hs
        .simp at hs
       .simp at hs
      .simp at hs
     .simp at hs
    .simp at hs
   simp only[qW,hop] at h;cases hs:tZ P bs t (ev [] a 0) (ev [] x t) with
   |none=>simp[hs] at h
   |some cs=>
    simp only[hs] at h;split at h
    .simp at h;subst h;exact key cs hs
    .simp at h
  .simp at h
 .cases ho
theorem Y0{F:List Nat}{bs:List aG}{f:List Nat}{r:Nat}{k k':aG}(hk:bs[r]?=some k)(hs:jX ⟨k'.lb,k'.bM⟩=jX ⟨k.lb,k.bM⟩):
  ∀q,(aY (iO F (aW (f.map .aV++ [.put r k']) bs)) q).bind jX=(aY (iO F bs) q).bind jX:=by
 intro q;unfold aY;rw[wW,wW,GQ];have e1:aW [dM.put r k'] (aW (f.map .aV) bs)=(aW (f.map .aV) bs).set r k':=rfl;rw[e1];have hfr:∀q,aY (aW (f.map .aV) bs) q=aY bs q:=fun q=>by rw[Im]
 have hlen:(aW (f.map .aV) bs).length=bs.length:=Gx _ _;have hr:r<bs.length:=(dF.1 hk).1;by_cases hq:r=q
 .subst hq;rw[zw (by omega),hk];cases F.contains r<;>simp[hs]
 .rw[dN hq];have:=hfr q;unfold aY at this;cases h1:(aW (f.map .aV) bs)[q]? with
  |none=>cases h2:bs[q]? with
   |none=>rfl
   |some y=>simp[h1,h2] at this
  |some x=>cases h2:bs[q]? with
   |none=>simp[h1,h2] at this
   |some y=>
    simp only[h1,h2,bQ,RB.mk.injEq] at this;simp only[uN];cases F.contains q<;>simp[this.1,this.2]
theorem HV{φ:Oper->FP}{ops:List Oper}{S S':SS}{obs:List Ob}:nZ P cfg φ ops o S=some (S',obs)↔
  ∃pc x cs n,qG S ops o=some pc/\coreC P cfg o pc (S.ev P) (iO (φ o).F S.blks) S.nv=some (x,cs,n,obs)/\cs.all (yj (φ o))=true/\FJ (φ o) o=true/\
   S'= {tmps:=cO S.tmps o.dst ⟨pc,x⟩,blks:=aW cs S.blks,nv:=S.nv+n}:=by
 unfold nZ;cases hg:qG S ops o with
 |none=>simp
 |some pc=>
  simp only[bQ];cases hc:coreC P cfg o pc (S.ev P) (iO (φ o).F S.blks) S.nv with
  |none=>
   simp;intro _ _ _ h;simp[hc] at h
  |some z=>
   obtain ⟨x,cs,n,ob⟩:=z;simp only;by_cases hok:(cs.all (yj (φ o))&&FJ (φ o) o)=true
   .rw[if_pos hok];simp only[aP] at hok;constructor
    .intro h;simp only[bQ,fq] at h;obtain ⟨rfl,rfl⟩:=h;exact ⟨pc,x,cs,n,rfl,hc,hok.1,hok.2,rfl⟩
    .rintro ⟨_,_,_,_,rfl,h,_,_,rfl⟩;rw[hc] at h;simp only[bQ,fq] at h;obtain ⟨rfl,rfl,rfl,rfl⟩:=h;rfl
   .rw[if_neg hok];constructor
    .intro h;cases h
    .rintro ⟨_,_,_,_,rfl,h,h1,h2,_⟩;rw[hc] at h;simp only[bQ,fq] at h;obtain ⟨rfl,rfl,rfl,rfl⟩:=h;exact absurd (by rw[h1,h2];rfl) hok
theorem wZ{φ:Oper->FP}{ops:List Oper}{S S':SS}{obs:List Ob}(h:nZ P cfg φ ops o S=some (S',obs)):S'.nv=S.nv+(obs.map Ob.vars).sum:=rV (Lx h)
theorem Hu{bs:List aG}{x:SX}{cs:List dM}{n:Nat}{ob:List Ob}(h:coreC P cfg o pc ev bs nv=some (x,cs,n,ob))(hc:wL cfg o=false):n=0:=by
 have hb:cls cfg o≠ .call/\cls cfg o≠ .G:=by simpa [wL] using hc
 unfold coreC at h;split at h
 .split at h
  .split at h
   .split at h
    .simp at h;exact h.2.2.1.symm
    .simp at h
   .simp at h
  .simp at h
 .split at h
  .rename_i hg;exact absurd hg hb.2
  .split at h
   .rename_i out hx;split at h
    .simp at h;rw[<-h.2.2.1];exact (zM hx).1 hb.1
    .simp at h
   .simp at h
theorem alb{φ:Oper->FP}{ops:List Oper}{a x:Oper}{S S1 S2:SS}{jo ig:List Ob}(hi:ET cfg φ ops a x=true)(h1:nZ P cfg φ ops a S=some (S1,jo))(h2:nZ P cfg φ ops x S1=some (S2,ig)):
  ∃tH,nZ P cfg φ ops x S=some (tH,ig)/\nZ P cfg φ ops a tH=some (S2,jo)/\(eP jo=0\/eP ig=0):=by
 have hv1:=wZ h1;have hv2:=wZ h2;obtain ⟨pc,x1,cs1,n1,hg,hc1,hm1,hd1,rfl⟩:=HV.1 h1;obtain ⟨pc',x2,cs2,n2,hg',hc2,hm2,hd2,rfl⟩:=HV.1 h2;simp only[ET,aP,Bool.or_eq_true,Bool.not_eq_true'] at hi;obtain ⟨hi1,hi2,e1,e2,e3,e4,e5,e6,e7,e8⟩:=hi;have hlx:∀t∈looks ops x,a.dst≠some t:=by
  intro t ht e;rw[e] at hi1;simp at hi1;exact hi1.1 ht
 have hdd:∀d,a.dst=some d->x.dst≠some d:=by
  intro d e;rw[e] at hi1;simp at hi1;exact hi1.2
 have hla:∀t∈looks ops a,x.dst≠some t:=by
  intro t ht e;rw[e] at hi2;simp at hi2;exact hi2 ht
 have ax:∀t∈looks ops x,(cO S.tmps a.dst ⟨pc,x1⟩)[t]?=S.tmps[t]?:=fun t ht=>Hz (hlx t ht);have aa:∀t∈looks ops a,(cO S.tmps x.dst ⟨pc',x2⟩)[t]?=S.tmps[t]?:=fun t ht=>Hz (hla t ht);rw[Gu (S:=S) ax] at hg';rw[XM (Iy (S:=S) ax)] at hc2;simp only[nE] at hm1 hm2;have in1:∀c∈cs1,(match c with| .put r _=>r∈(φ a).W| .aV r=>r∈(φ a).Z):=by
  intro c hc;have:=hm1 c hc;cases c with
  |put r b=>simpa [yj] using this
  |aV r=>simpa [yj] using this
 have in2:∀c∈cs2,(match c with| .put r _=>r∈(φ x).W| .aV r=>r∈(φ x).Z):=by
  intro c hc;have:=hm2 c hc;cases c with
  |put r b=>simpa [yj] using this
  |aV r=>simpa [yj] using this
 have hn:n1=0\/n2=0:=by
  rcases e8 with h|h
  .exact .inl (Hu hc1 h)
  .exact .inr (Hu hc2 h)
 have hx:coreC P cfg x pc' (S.ev P) (iO (φ x).F S.blks) S.nv=some (x2,cs2,n2,ig):=by
  rw[<-hc2];rcases e1 with e1|e1;rotate_left
  .obtain ⟨f,r,k,k',q1,q2,q3,q4⟩:=X8 e1.1 hc1;simp only at q1;subst q1;exact (aaA e1.2 (Y0 (D5 _ _ r k q2 q3) q4)).symm
  refine (XO (fun c hc r hr=>?_) ?_).symm
  .have:=in1 c hc;cases c with
   |put q b=>exact zG e1 this hr
   |aV q=>
    intro hw;rcases e6 with h|h
    .rw[h] at hw;cases hw
    .exact zG h this hr
  .cases hcx:wL cfg x with
   |true=>
    left;have:n1=0:=by
     rcases e8 with h|h
     .exact Hu hc1 h
     .rw[h] at hcx;cases hcx
    simp[this]
   |false=>exact .inr rfl
 refine ⟨{tmps:=cO S.tmps x.dst ⟨pc',x2⟩,blks:=aW cs2 S.blks,nv:=S.nv+n2},HV.2 ⟨pc',x2,cs2,n2,hg',hx,by simpa [nE] using hm2,hd2,rfl⟩,
  HV.2 ⟨pc,x1,cs1,n1,?_,?_,by simpa [nE] using hm1,hd1,?_⟩,?_⟩
 .rw[Gu (S:=S) aa];exact hg
 .rw[XM (Iy (S:=S) aa),<-hc1];rcases e2 with e2|e2;rotate_left
  .obtain ⟨f,r,k,k',q1,q2,q3,q4⟩:=X8 e2.1 hx;simp only at q1;subst q1;exact aaA e2.2 (Y0 (D5 _ _ r k q2 q3) q4)
  refine XO (fun c hc r hr=>?_) ?_
  .have:=in2 c hc;cases c with
   |put q b=>exact zG e2 this hr
   |aV q=>
    intro hw;rcases e7 with h|h
    .rw[h] at hw;cases hw
    .exact zG h this hr
  .cases hca:wL cfg a with
   |true=>
    left;have:n2=0:=by
     rcases e8 with h|h
     .rw[h] at hca;cases hca
     .exact Hu hc2 h
    simp[this]
   |false=>exact .inr rfl
 .rw[SS.mk.injEq];refine ⟨Za hdd,?_,by simp only;omega⟩;refine (Vw cs1 cs2 S.blks fun c hc d hd bs=>aoa c d ?_ bs).symm;have i1:=in1 c hc;have i2:=in2 d hd;cases c with
  |put r b=>cases d with
   |put q b'=>exact zG e3 i1 i2
   |aV q=>exact zG e4 i1 i2
  |aV r=>cases d with
   |put q b'=>exact fun e=>zG e5 i2 i1 e.symm
   |aV q=>trivial
 .simp only[eP] at*;rcases hn with h|h
  .left;omega
  .right;omega
theorem Y5{ρ:List C}{φ:Oper->FP}{ops:List Oper}{x:Oper}{post:List Oper}:∀ {pre:List Oper} {S S':SS} {obs:List Ob},(∀a∈pre,ET cfg φ ops a x=true)->
  qV (nZ P cfg φ ops) (pre++x::post) S=some (S',obs)->dB P ρ S.nv obs->
  ∃S1 jo ig,nZ P cfg φ ops x S=some (S1,jo)/\qV (nZ P cfg φ ops) (pre++post) S1=some (S',ig)/\dB P ρ S.nv jo/\dB P ρ S1.nv ig
 | [],S,S',obs,_,h,ho=>by
  simp only[fJ,qV] at h;split at h
  .simp at h
  .rename_i S1 jo h1;split at h
   .simp at h
   .rename_i S2 ig h2;simp at h;obtain ⟨rfl,rfl⟩:=h;rw[rQ] at ho;exact ⟨S1,jo,ig,h1,h2,ho.1,by rw[wZ h1];exact ho.2⟩
 |a::pre,S,S',obs,hi,h,ho=>by
  simp only[jc,qV] at h;split at h
  .simp at h
  .rename_i Sa PZ ha;split at h
   .simp at h
   .rename_i S2 ig h2;simp at h;obtain ⟨rfl,rfl⟩:=h;rw[rQ] at ho;obtain ⟨S3,P6,P5,h3,h4,ho3,P8⟩:=Y5 (fun a' ha'=>hi a' (by simp[ha'])) h2 (by rw[wZ ha];exact ho.2);obtain ⟨tH,e1,e2,e3⟩:=alb (hi a (by simp)) ha h3;have n1:=wZ ha;have n2:=wZ h3;have n3:=wZ e1;have n4:=wZ e2;simp only[eP] at e3;refine ⟨tH,P6,PZ++P5,e1,?_,?_,?_⟩
    .simp only[jc,qV,e2,h4]
    .rcases e3 with e|e
     .rw[show S.nv=Sa.nv by omega];exact ho3
     .exact GV _ _ _ e ho3
    .rw[rQ];refine ⟨?_,by rw[<-n4];exact P8⟩;rcases e3 with e|e
     .exact GV _ _ _ e ho.1
     .rw[show tH.nv=S.nv by omega];exact ho.1
theorem Xg{φ:Oper->FP}{ops:List Oper}:∀ {l:List Oper} {S:SS} {y:SS×List Ob},qV (nZ P cfg φ ops) l S=some y->j6 P cfg ops l S=some y
 | [],_,_,h=>h
 |o::l,S,y,h=>by
  simp only[qV] at h;split at h
  .simp at h
  .rename_i S1 jo h1;split at h
   .simp at h
   .rename_i S2 ig h2;simp only[j6,Lx h1,Xg h2];exact h
end
section
variable{P:Program}{cfg:dA}{N0:Nat->Prop}{w0:Wb}{ρ:List C}{Q:Exit->Act->World->Prop}
theorem alX{ops:List Oper}{φ:Oper->FP}(hback:OJ ops=true)(EU:Z8 cfg φ ops (pq ops [])=true){S':SS}(hq:∀a' w',(∃hv',aJ P N0 w0 ρ S' hv' a' w')->Q .normal a' w'):
  ∀(fuel:Nat) (listed:Array Bool) (S:SS) (hv:Nat->Value) (a:Act) (w:World) (obs:List Ob),aJ P N0 w0 ρ S hv a w->
   qV (nZ P cfg φ ops) (rem listed 0 ops) S=some (S',obs)->dB P ρ S.nv obs->listed.size=ops.length->(rem listed 0 ops).length<=fuel->
   (∀i,listed.getD i false=true->∀j,((pq ops []).getD i 0).testBit j=true->listed.getD j false=true)->wpAny P .any ops.toArray Q fuel listed a w:=by
 have hgd:∀(listed:Array Bool) (i:Nat),listed.size=ops.length->i<ops.length->listed.getD i true=listed.getD i false:=by
  intro listed i h1 h2;have:i<listed.size:=by omega
  simp[Array.getD,this]
 have hnil:∀listed:Array Bool,listed.size=ops.length->Region.ready .any ops.toArray listed=[]->rem listed 0 ops=[]:=by
  intro listed hs hr;apply aa0;intro j hj;rw[iI];induction j using Nat.strongRecOn with
  |_ j ih=>
   cases hb:listed.getD j true with
   |true=>rfl
   |false=>
    exfalso;have hm:j∈Region.ready .any ops.toArray listed:=by
     rw[mem_ready];refine ⟨hb,ops[j],by simp[hj],fun e he hbe=>?_⟩;have h1:=Br hback (iK hj);simp only[nE] at h1;have h2:=h1 e (by simpa using he);simp[hbe] at h2;rw[<-hgd listed e.on hs (by omega)];exact ih e.on h2 (by omega)
    rw[hr] at hm;cases hm
 intro fuel;induction fuel with
 |zero=>
  intro listed S hv a w obs hrel hrun ho hs hf hcl;have h0:rem listed 0 ops=[]:=List.length_eq_zero_iff.1 (by omega);refine ⟨?_,?_⟩
  .cases hr:Region.ready .any ops.toArray listed with
   |nil=>rfl
   |cons i r=>
    have hm:i∈Region.ready .any ops.toArray listed:=by rw[hr];simp
    obtain ⟨h1,o,h2,_⟩:=mem_ready.1 hm;rw[DX (listed:=listed) (l:=ops) (k:=0) (i:=i) (x:=o) (by simpa using h2) (by simpa using h1)] at h0;simp at h0
  .rw[h0] at hrun;simp[qV] at hrun;obtain ⟨rfl,rfl⟩:=hrun;exact hq a w ⟨hv,hrel⟩
 |succ fuel ih=>
  intro listed S hv a w obs hrel hrun ho hs hf hcl;refine ⟨fun hr=>?_,fun i hi=>?_⟩
  .rw[hnil listed hs hr] at hrun;simp[qV] at hrun;obtain ⟨rfl,rfl⟩:=hrun;exact hq a w ⟨hv,hrel⟩
  .obtain ⟨h1,x,h2,hall⟩:=mem_ready.1 hi;have hx:ops[i]?=some x:=by simpa using h2
   have hlt:i<ops.length:=(dF.1 hx).1;have F5:∀j,((pq ops []).getD i 0).testBit j=true->listed.getD j false=true:=by
    intro j hj;obtain ⟨e,he,hb,h3⟩:=MV ops [] i x j hx (by simpa using hj);have hl:=hall e (by simpa using he) hb;rcases h3 with rfl|h3
    .exact hl
    .exact hcl e.on hl j h3
   have hsp:=DX (listed:=listed) (l:=ops) (k:=0) (i:=i) (x:=x) hx (by simpa using h1);have hst:=NA (listed:=listed) (l:=ops) (k:=0) (i:=i) (x:=x) hx (by simpa using h1) (by omega);rw[iI] at hst hsp;rw[hsp] at hrun;have PL:∀b∈rem listed 0 (ops.take i),ET cfg φ ops b x=true:=by
    intro b hb;obtain ⟨j,hj,hjl⟩:=Er hb;rw[iI] at hjl;rw[mR] at hj;split at hj
    .rename_i hji;have h3:=Br (Br EU hx) hj;simp only[Bool.or_eq_true,Bool.not_eq_true',kP] at h3;rcases h3 with (h3|h3)|h3
     .exact absurd hji h3
     .have:=F5 j h3;rw[<-hgd listed j hs (by omega),hjl] at this;cases this
     .exact h3
    .cases hj
   obtain ⟨S1,jo,ig,e1,e2,o1,o2⟩:=Y5 PL hrun ho;have next:∀a' w',(∃hv',aJ P N0 w0 ρ S1 hv' a' w')->wpAny P .any ops.toArray Q fuel (listed.setIfInBounds i true) a' w':=by
    rintro a' w' ⟨hv',hr'⟩;refine ih _ S1 hv' a' w' ig hr' (by rw[hst];exact e2) o2 (by simpa using hs) ?_ ?_
    .rw[hst];rw[hsp] at hf;simp at hf |-;omega
    .intro q hq' j hj;by_cases hqi:i=q
     .subst hqi;exact getD_set_true (F5 j hj)
     .rw[getD_set_ne false hqi] at hq';exact getD_set_true (hcl q hq' j hj)
   unfold wpOp;simp only[h2];have hss:=LW (Q:=Q) hrel (Lx e1) o1;split
   .rename_i hw;rw[if_pos hw] at hss;exact .inl (Oper.wp_mono next hss)
   .rename_i hw;rw[if_neg hw] at hss;exact next _ _ hss
theorem aiE{id:Nat}{ops:Array Oper}{draw:Bool}{S S':SS}{hv:Nat->Value}{a:Act}{w:World}{obs:List Ob}(hrel:aJ P N0 w0 ρ S hv a w)
  (hd:(draw&& !(xk P cfg ops.toList||Mw P cfg ops.toList S))=false) (h:j6 P cfg ops.toList ops.toList S=some (S',obs)) (ho:dB P ρ S.nv obs)
  (hq:∀a' w',(∃hv',aJ P N0 w0 ρ S' hv' a' w')->Q .normal a' w'):(Code.region id ops draw).wp P Q a w:=by
 by_cases hr:(draw&& !xk P cfg ops.toList)=false
 .exact VP hrel hr h ho hq
 .cases draw with
  |false=>simp at hr
  |true=>
   simp at hr;simp[hr] at hd;unfold Mw at hd;simp only[aP] at hd;obtain ⟨hm,hback,EU,hsome⟩:=hd;obtain ⟨y,hy⟩:=kK.1 hsome;have hy2:=Xg hy;rw[h] at hy2;injection hy2 with hy2;subst hy2;refine wp_region_any hm ?_;have key:∀(l:List Oper) (k n:Nat),k+l.length<=n->rem (Array.replicate n false) k l=l:=by
    intro l;induction l with
    |nil=>intros;rfl
    |cons o l ih=>
     intro k n hk;simp at hk;have:(Array.replicate n false).getD k true=false:=by simp[Array.getD,show k<n by omega]
     simp only[rem,this];rw[ih (k+1) n (by omega)];simp
   have hk:=key ops.toList 0 ops.size (by simp);have:=alX (Q:=Q) hback EU hq ops.size (Array.replicate ops.size false) S hv a {w with drawn:=w.drawn+1} obs (hrel.drew _) (by rw[hk];exact hy) ho (by simp) (by rw[hk];simp)
    (fun i hi=>by exfalso;by_cases hlt:i<ops.size<;>simp[Array.getD,hlt] at hi)
   simpa using this
end
section
variable{P:Program}{N0:Nat->Prop}{w0:Wb}{ρ ρ':List C}{S:SS}{hv:Nat->Value}{a:Act}{w:World}{N:Nat->Prop}{bs:List aG}
def oo(n:Nat)(ρ ρ':List C):Prop:=∀e:E,e.bd n=true->e.eval ρ'=e.eval ρ
theorem oo.app(ρ σ:List C):oo ρ.length ρ (ρ++σ):=fun e h=>E.an3 ρ σ e h
theorem oo.bM{n:Nat}(h:oo n ρ ρ'){p:aM}(hp:uf n p=true):aS ρ' p↔aS ρ p:=by
 unfold uf at hp;rw[nE] at hp;exact ⟨fun H x hx=>by rw[<-h _ (hp x hx)];exact H x hx,fun H x hx=>by rw[h _ (hp x hx)];exact H x hx⟩
theorem oo.args{n:Nat}(h:oo n ρ ρ'){l:List (Sh×E)}(hl:l.all (fun x=>x.2.bd n)=true):dS ρ' l=dS ρ l:=by
 rw[nE] at hl;exact yM fun x hx=>by rw[h _ (hl x hx)]
def vW(n:Nat)(bs:List aG):Prop:=∀(r:Nat) (k:aG),bs[r]?=some k->uf n k.bM=true/\k.lb.bd n=true
theorem vW.row{n:Nat}(h:vW n bs){r:Nat}{s:Sh}{e:E}{p:aM}(hr:bV bs r=some (s,e,p)):uf n p=true/\e.bd n=true:=by
 unfold bV at hr;split at hr
 .rename_i hk;simp at hr;obtain ⟨rfl,rfl,rfl⟩:=hr;exact h r _ hk
 .simp at hr
theorem vW.box{n:Nat}(h:vW n bs){r:Nat}{cs:List SX}{p:aM}(hr:dZ bs r=some (cs,p)):uf n p=true:=by
 unfold dZ at hr;split at hr
 .rename_i hk;simp at hr;obtain ⟨rfl,rfl⟩:=hr;exact (h r _ hk).1
 .simp at hr
theorem bB.env{n:Nat}(h:oo n ρ ρ')(hb:vW n bs){x:SX}(hx:x.bd n=true){v:Value}(H:bB w N ρ bs hv x v):bB w N ρ' bs hv x v:=by
 cases x with
 |none=>trivial
 |dat s e=>simp only[SX.bd] at hx;simp only[bB] at H |-;rw[h e hx];exact H
 |res l=>simp only[SX.bd] at hx;simp only[bB] at H |-;rw[h.args hx];exact H
 |yA r m l=>
  simp only[SX.bd,aP] at hx;obtain ⟨H1,v1,vr,H2,H3,H4,H5⟩:=H;refine ⟨H1,v1,vr,H2,fun s e p hr hp=>?_,by rw[h.args hx.2];exact H4,H5⟩;obtain ⟨h1,h2⟩:=hb.row hr;rw[h m hx.1,h e h2];exact H3 s e p hr ((h.bM h1).1 hp)
 |full r m=>
  simp only[SX.bd] at hx;refine ⟨H.1,fun s e p hr hp=>?_⟩;obtain ⟨h1,h2⟩:=hb.row hr;rw[h m hx,h e h2];exact H.2 s e p hr ((h.bM h1).1 hp)
 |view r off m=>
  simp only[SX.bd,aP] at hx;refine ⟨H.1,fun s e p hr hp=>?_⟩;obtain ⟨h1,h2⟩:=hb.row hr;rw[h off hx.1,h m hx.2,h e h2];exact H.2 s e p hr ((h.bM h1).1 hp)
 |ref r i fo s bZ=>
  simp only[SX.bd] at hx;refine ⟨H.1,fun es e p hr hp=>?_,fun cs p hr hp=>?_⟩
  .obtain ⟨h1,h2⟩:=hb.row hr;rw[h i hx,h e h2];exact H.2.1 es e p hr ((h.bM h1).1 hp)
  .exact H.2.2 cs p hr ((h.bM (hb.box hr)).1 hp)
 |ptr s e=>simp only[SX.bd] at hx;simp only[bB] at H |-;rw[h e hx];exact H
 |fn f=>exact H
 |Av e=>simp only[SX.bd] at hx;simp only[bB] at H |-;rw[h e hx];exact H
 |uI t s n=>exact H
 |rF r=>exact H
 |uT r=>exact H
 |wE s p=>simp only[SX.bd,aP] at hx;simp only[bB] at H |-;rw[h s hx.1,h p hx.2];exact H
 |okF=>exact H
theorem dY.env{n:Nat}(h:oo n ρ ρ')(hb:vW n bs):∀ {l:List SX} {vs:List Value},l.all (·.bd n)=true->dY w N ρ bs hv l vs->dY w N ρ' bs hv l vs
 | [],_,_,H=>H
 |x::l,_,hl,⟨v,r,h1,h2,h3⟩=>by
  simp only[List.all_cons,aP] at hl;exact ⟨v,r,h1,h2.env h hb hl.1,dY.env h hb hl.2 h3⟩
theorem oq.env{n:Nat}{B:Nat->Prop}(h:oo n ρ ρ')(hb:vW n bs){r:Nat}{lb:LB}(hl:lb.bd n=true)(H:oq w B N ρ bs hv r lb):oq w B N ρ' bs hv r lb:=by
 cases lb with
 |none=>trivial
 |dead=>trivial
 |row s e=>simp only[LB.bd] at hl;simp only[oq] at H |-;rw[h e hl];exact H
 |box cs=>
  simp only[LB.bd] at hl;obtain ⟨g,bt,arr,h1,h2,h3,h4⟩:=H;exact ⟨g,bt,arr,h1,h2,h3,h4.env h hb hl⟩
 |mp k s e=>simp only[LB.bd] at hl;simp only[oq] at H |-;rw[h e hl];exact H
 |sit s p=>simp only[LB.bd,aP] at hl;simp only[oq] at H |-;rw[h s hl.1,h p hl.2];exact H
theorem NN.env{n:Nat}{B:Nat->Prop}(h:oo n ρ ρ')(hb:vW n bs):NN N0 B ρ' bs hv=NN N0 B ρ bs hv:=by
 funext b
 apply propext;constructor
 .exact fun H=>⟨H.1,fun r k hr hl hf hp=>H.2 r k hr hl hf ((h.bM (hb r k hr).1).2 hp)⟩
 .exact fun H=>⟨H.1,fun r k hr hl hf hp=>H.2 r k hr hl hf ((h.bM (hb r k hr).1).1 hp)⟩
theorem SS.Oe{n:Nat}(h:S.bd n=true){t:Nat}{ts:TS}(ht:S.tmps[t]?=some ts):uf n ts.bM=true/\ts.sx.bd n=true:=by
 simp only[SS.bd,aP,nE] at h;exact h.1 ts (List.mem_of_getElem? ht)
theorem SS.Og{n:Nat}(h:S.bd n=true):vW n S.blks:=by
 simp only[SS.bd,aP,nE] at h;exact fun r k hk=>h.2 k (List.mem_of_getElem? hk)
theorem aJ.env{n:Nat}(h:oo n ρ ρ')(hb:S.bd n=true)(H:aJ P N0 w0 ρ S hv a w):aJ P N0 w0 ρ' S hv a w:=by
 have hbs:=SS.Og hb;refine ⟨H.defers,H.wB,H.below,fun t ts ht hp=>?_,fun t ts ht hp=>?_,fun r k hr hp=>?_,fun r r' k k' g hr hr' hne hl hl' hp hp'=>?_⟩
 .obtain ⟨h1,h2⟩:=SS.Oe hb ht;rw[NN.env h hbs];exact (H.tmps t ts ht ((h.bM h1).1 hp)).env h hbs h2
 .exact H.und t ts ht fun hq=>hp ((h.bM (SS.Oe hb ht).1).2 hq)
 .rw[NN.env h hbs];exact (H.blks r k hr ((h.bM (hbs r k hr).1).1 hp)).env h hbs (hbs r k hr).2
 .exact H.dist r r' k k' g hr hr' hne hl hl' ((h.bM (hbs r k hr).1).1 hp) ((h.bM (hbs r' k' hr').1).1 hp')
theorem GU{Post:List (Sh×C)->Prop}{Bs:List (List C->Prop)}{k:VC}:∀ {obs:List Ob} {ρ:List C},Cm ρ.length obs=true->(FE obs k).holds P Post Bs ρ->
  ∃σ,dB P (ρ++σ) ρ.length obs/\k.holds P Post Bs (ρ++σ)/\σ.length=eP obs
 | [],ρ,_,h=>⟨[],trivial,by rw[jl];exact h,rfl⟩
 | .aj p e::l,ρ,hb,h=>by
  simp only[Cm,Ob.bd,Ob.vars,Nat.add_zero,aP] at hb;obtain ⟨h1,h2⟩:=h;obtain ⟨σ,e1,e2,e3⟩:=GU (obs:=l) hb.2 h2;refine ⟨σ,⟨fun hp=>?_,e1⟩,e2,by simpa [eP,Ob.vars] using e3⟩;have FZ:=oo.app ρ σ;rw[FZ e hb.1.2];exact h1 ((FZ.bM hb.1.1).1 hp)
 | .call p f args aF::l,ρ,hb,h=>by
  simp only[Cm,Ob.bd,Ob.vars,aP] at hb;obtain ⟨res,h0,h1,h2⟩:=h;obtain ⟨σ,e1,e2,e3⟩:=GU (obs:=l) (ρ:=ρ++res) (by rw[bg,h0];exact hb.2) h2;refine ⟨res++σ,⟨fun hp=>?_,?_⟩,by rw[<-dI];exact e2,?_⟩
  .have FZ:=oo.app ρ (res++σ);refine ⟨?_,.inr (by simp[h0])⟩;rw[FZ.args hb.1.2];have e4:((ρ++(res++σ)).drop ρ.length).take aF.length=res:=by simp[<-h0]
   rw[e4];exact h1 ((FZ.bM hb.1.1).1 hp)
  .rw[<-dI];rw[bg,h0] at e1;exact e1
  .simp only[eP,eZ,List.sum_cons,Ob.vars,bg] at e3 |-;omega
theorem E.YB{base:Nat}{es:List E}(hb:base<=ρ.length):∀e:E,e.bd (base+es.length)=true->e.eval (ρ.take base++es.map (·.eval ρ))=(e.subst base es).eval ρ:=by
 intro e;induction e with
 |vq i=>
  intro h;simp only[E.bd,bR] at h;simp only[E.subst,E.eval];by_cases hi:i<base
  .rw[if_pos hi];simp only[E.eval,List.getD];rw[rD (by simp;omega),List.getElem?_take_of_lt hi]
  .rw[if_neg hi];simp only[List.getD];rw[yJ (by simp;omega)];have hl:(ρ.take base).length=base:=by simp;omega
   rw[hl];have h2:i-base<es.length:=by omega
   simp[h2]
 |_=>intro h;simp_all[E.bd,E.eval,E.subst]
end
section
variable{P:Program}{N0:Nat->Prop}{w0:Wb}{ρ:List C}{S H:SS}{hv:Nat->Value}{a:Act}{w:World}{base:Nat}{es:List E}{π:Ren}
theorem LX:∀ {s:Sh} {e:E} {vs:List Value},Exact s (e.subst base es) vs->Exact s e vs
 | .sl s,e,vs,h=>by cases e<;>first|trivial|exact h
 | .pair x y,e,vs,h=>by
  cases e with
  |cons p q=>
   obtain ⟨va,vb,h1,h2,h3,h4⟩:=h;exact ⟨va,vb,h1,h2,LX h3,LX h4⟩
  |_=>trivial
 | .int k,e,vs,_=>by cases e<;>trivial
 | .bool,e,vs,_=>by cases e<;>trivial
 | .str,e,vs,_=>by cases e<;>trivial
 | .unit,e,vs,_=>by cases e<;>trivial
 | .bP _ _,e,vs,_=>by cases e<;>trivial
 | .iX,e,vs,_=>by cases e<;>trivial
 | .eU _,e,vs,_=>by cases e<;>trivial
 | .mp _ _,e,vs,_=>by cases e<;>trivial
def nW(π:Ren)(H:SS)(hv:Nat->Value)(r:Nat):Value:=
 match rowAt H r with
 |some _=>match ren π r with
  |some (some q)=>hv q
  |_=> .slice none 0 0
 |none=>hv r
theorem Il{r:Nat}{s:Sh}{e:E}{f:Bool}(h:rowAt S r=some (s,e,f)):S.blks[r]?=some ⟨.row s e,f,[]⟩:=by
 unfold rowAt at h;split at h
 .rename_i hk;simp at h;obtain ⟨rfl,rfl,rfl⟩:=h;exact hk
 .simp at h
theorem aaJ{r:Nat}{cs:List SX}{f:Bool}(h:JJ S r=some (cs,f)):S.blks[r]?=some ⟨.box cs,f,[]⟩:=by
 unfold JJ at h;split at h
 .rename_i hk;simp at h;obtain ⟨rfl,rfl⟩:=h;exact hk
 .simp at h
theorem DJ:∀ {l:List aG} {k:Nat},EG base es π H S k l=true->∀ {i:Nat} {b:aG},l[i]?=some b->um base es π H S (k+i) b=true
 | [],_,_,_,_,h=>by simp at h
 |x::l,k,hw,0,b,h=>by simp at h;subst h;simp only[EG,aP] at hw;exact hw.1
 |x::l,k,hw,i+1,b,h=>by
  simp only[EG,aP] at hw;have:=DJ hw.2 (i:=i) (b:=b) (by simpa using h);rwa[show k+1+i=k+(i+1) by omega] at this
theorem YR:∀ {l m:List TS},BR base es π H l m=true->l.length=m.length/\∀ {i:Nat} {x:TS},l[i]?=some x->
  x.bM=[]/\(x.sx= .none\/∃y,m[i]?=some y/\y.bM=[]/\Ch base es π H x.sx y.sx=true)
 | [],[],_=>⟨rfl,fun h=>by simp at h⟩
 | [],_::_,h=>by simp[BR] at h
 |_::_,[],h=>by simp[BR] at h
 |x::l,y::m,h=>by
  simp only[BR,aP,Bool.or_eq_true,bR] at h;obtain ⟨h1,h2⟩:=YR h.2;refine ⟨by simp[h1],fun {i z} hz=>?_⟩;cases i with
  |zero=>
   simp at hz;subst hz;exact ⟨h.1.1,h.1.2.imp id fun h3=>⟨y,by simp,h3.1,h3.2⟩⟩
  |succ i=>simpa using h2 (by simpa using hz)
theorem Xi:∀ {π:Ren},Jd π=true->∀ {r r' q:Nat},ren π r=some (some q)->ren π r'=some (some q)->r=r'
 | [],_,_,_,_,h,_=>by simp[ren] at h
 |(k,x)::π,hi,r,r',q,h,h'=>by
  simp only[Jd,aP] at hi;have mem:∀ {r q:Nat},ren π r=some (some q)->∃z∈π,z.2=some q:=by
   intro r q h;unfold ren at h;cases hf:π.find? fun x=>x.1==r with
   |none=>simp[hf] at h
   |some z=>simp[hf] at h;exact ⟨z,List.mem_of_find?_eq_some hf,h⟩
  have cons:∀r,ren ((k,x)::π) r=if k=r then some x else ren π r:=by
   intro r;unfold ren;by_cases e:k=r<;>simp[e]
  rw[cons] at h h';by_cases e:k=r<;>by_cases e':k=r'
  .omega
  .rw[if_pos e] at h;rw[if_neg e'] at h';injection h with h;subst h;obtain ⟨z,hz,hz2⟩:=mem h';have:=hi.1;simp only[nE] at this;have:=this z hz;rw[hz2] at this;simp at this
  .rw[if_neg e] at h;rw[if_pos e'] at h';injection h' with h';subst h';obtain ⟨z,hz,hz2⟩:=mem h;have:=hi.1;simp only[nE] at this;have:=this z hz;rw[hz2] at this;simp at this
  .rw[if_neg e] at h;rw[if_neg e'] at h';exact Xi hi.2 h h'
theorem aah{r:Nat}{k:IntKind}{s:Sh}{e:E}{f:Bool}(h:JD S r=some (k,s,e,f)):S.blks[r]?=some ⟨.mp k s e,f,[]⟩:=by
 unfold JD at h;split at h
 .rename_i hk;simp at h;obtain ⟨rfl,rfl,rfl,rfl⟩:=h;exact hk
 .simp at h
theorem Z0{r:Nat}{s p:E}{f:Bool}(h:Jr S r=some (s,p,f)):S.blks[r]?=some ⟨.sit s p,f,[]⟩:=by
 unfold Jr at h;split at h
 .rename_i hk;simp at h;obtain ⟨rfl,rfl,rfl⟩:=h;exact hk
 .simp at h
structure Weak (base:Nat) (es:List E) (π:Ren) (H S:SS):Prop where
 len:H.tmps.length=S.tmps.length
 tmps:∀(t:Nat) (x:TS),H.tmps[t]?=some x->x.bM=[]/\(x.sx= .none\/∃y,S.tmps[t]?=some y/\y.bM=[]/\Ch base es π H x.sx y.sx=true)
 row:∀(r:Nat) (s:Sh) (e:E) (f:Bool) (p:aM),H.blks[r]?=some ⟨.row s e,f,p⟩->p=[]/\
  ((∃q e' f',ren π r=some (some q)/\S.blks[q]?=some ⟨.row s e',f',[]⟩/\e.subst base es=e'/\(f=false->f'=false))\/(ren π r=some none/\e.subst base es= .nil/\s.size≠0))
 box:∀(r:Nat) (cs:List SX) (f:Bool) (p:aM),H.blks[r]?=some ⟨.box cs,f,p⟩->p=[]/\∃cs' f',S.blks[r]?=some ⟨.box cs',f',[]⟩/\(f=false->f'=false)/\zT base es π H cs cs'=true
 mp:∀(r:Nat) (k:IntKind) (s:Sh) (e:E) (f:Bool) (p:aM),H.blks[r]?=some ⟨.mp k s e,f,p⟩->p=[]/\∃e' f',S.blks[r]?=some ⟨.mp k s e',f',[]⟩/\(f=false->f'=false)/\e.subst base es=e'
 sit:∀(r:Nat) (s q:E) (f:Bool) (p:aM),H.blks[r]?=some ⟨.sit s q,f,p⟩->p=[]/\∃s' q' f',S.blks[r]?=some ⟨.sit s' q',f',[]⟩/\(f=false->f'=false)/\s.subst base es=s'/\q.subst base es=q'
 inj:∀ {r r' q:Nat},ren π r=some (some q)->ren π r'=some (some q)->r=r'
theorem aoq(h:xH base es π H S=true):Weak base es π H S:=by
 simp only[xH,aP] at h;obtain ⟨h1,h2,h3⟩:=h;obtain ⟨hl,ht⟩:=YR h1;refine ⟨hl,fun t x hx=>ht hx,fun r s e f p hr=>?_,fun r cs f p hr=>?_,fun r k s e f p hr=>?_,fun r s q f p hr=>?_,fun h h'=>Xi h3 h h'⟩
 .have:=DJ h2 hr;rw[iI] at this;cases p with
  |cons _ _=>simp[um] at this
  |nil=>
   refine ⟨rfl,?_⟩;simp only[um] at this;split at this
   .rename_i q hq;split at this
    .rename_i s' e' f' hs;simp only[aP,bR] at this;obtain ⟨⟨rfl,h5⟩,h6⟩:=this;exact .inl ⟨q,e',f',hq,Il hs,h5,fun hf=>by simpa [hf] using h6⟩
    .simp at this
   .rename_i hq;simp only[aP,bR,bne_iff_ne] at this;exact .inr ⟨hq,this.1,this.2⟩
   .simp at this
 .have:=DJ h2 hr;rw[iI] at this;cases p with
  |cons _ _=>simp[um] at this
  |nil=>
   refine ⟨rfl,?_⟩;simp only[um] at this;split at this
   .rename_i cs' f' hs;simp only[aP] at this;exact ⟨cs',f',aaJ hs,fun hf=>by simpa [hf] using this.1,this.2⟩
   .simp at this
 .have:=DJ h2 hr;rw[iI] at this;cases p with
  |cons _ _=>simp[um] at this
  |nil=>
   refine ⟨rfl,?_⟩;simp only[um] at this;split at this
   .rename_i k' s' e' f' hs;simp only[aP,bR] at this;obtain ⟨rfl,rfl,h5,h6⟩:=this;exact ⟨e',f',aah hs,fun hf=>by simpa [hf] using h6,h5⟩
   .simp at this
 .have:=DJ h2 hr;rw[iI] at this;cases p with
  |cons _ _=>simp[um] at this
  |nil=>
   refine ⟨rfl,?_⟩;simp only[um] at this;split at this
   .rename_i s' q' f' hs;simp only[aP,bR] at this;obtain ⟨h4,h5,h6⟩:=this;exact ⟨s',q',f',Z0 hs,fun hf=>by simpa [hf] using h6,h4,h5⟩
   .simp at this
theorem Y7{r:Nat}{s:Sh}{e:E}{f:Bool}(h:S.blks[r]?=some ⟨.row s e,f,[]⟩):rowAt S r=some (s,e,f):=by unfold rowAt;rw[h]
theorem Bw{bs:List aG}{r:Nat}{s:Sh}{e:E}{f:Bool}{p:aM}(h:bs[r]?=some ⟨.row s e,f,p⟩):bV bs r=some (s,e,p):=by unfold bV;rw[h]
theorem MQ{bs:List aG}{r:Nat}{cs:List SX}{f:Bool}{p:aM}(h:bs[r]?=some ⟨.box cs,f,p⟩):dZ bs r=some (cs,p):=by unfold dZ;rw[h]
theorem rowIn_row{bs:List aG}{r:Nat}{s:Sh}{e:E}{p:aM}(h:bV bs r=some (s,e,p)):∃f,bs[r]?=some ⟨.row s e,f,p⟩:=by
 unfold bV at h;split at h
 .rename_i hk;simp at h;obtain ⟨rfl,rfl,rfl⟩:=h;exact ⟨_,hk⟩
 .simp at h
theorem am2{bs:List aG}{r:Nat}{cs:List SX}{p:aM}(h:dZ bs r=some (cs,p)):∃f,bs[r]?=some ⟨.box cs,f,p⟩:=by
 unfold dZ at h;split at h
 .rename_i hk;simp at h;obtain ⟨rfl,rfl⟩:=h;exact ⟨_,hk⟩
 .simp at h
theorem headHv_row{r q:Nat}{s:Sh}{e:E}{f:Bool}(h:H.blks[r]?=some ⟨.row s e,f,[]⟩)(hq:ren π r=some (some q)):nW π H hv r=hv q:=by
 unfold nW;rw[Y7 h,hq]
theorem Mh{r:Nat}{s:Sh}{e:E}{f:Bool}(h:H.blks[r]?=some ⟨.row s e,f,[]⟩)(hq:ren π r=some none):nW π H hv r= .slice none 0 0:=by
 unfold nW;rw[Y7 h,hq]
theorem Mi{r:Nat}{cs:List SX}{f:Bool}{p:aM}(h:H.blks[r]?=some ⟨.box cs,f,p⟩):nW π H hv r=hv r:=by
 unfold nW;have:rowAt H r=none:=by unfold rowAt;rw[h]
 rw[this]
theorem Bu{r:Nat}{lb:LB}{f:Bool}{p:aM}(h:H.blks[r]?=some ⟨lb,f,p⟩)(hn:∀s e,lb≠ .row s e):nW π H hv r=hv r:=by
 unfold nW;have:rowAt H r=none:=by
  unfold rowAt;rw[h];cases lb with
  |row s e=>exact absurd rfl (hn s e)
  |_=>rfl
 rw[this]
theorem WX(hw:Weak base es π H S)(hb:base<=ρ.length)(hbd:H.bd (base+es.length)=true){N:Nat->Prop}{x y:SX}{v:Value}(hx:x.bd (base+es.length)=true)
  (h:Ch base es π H x y=true) (hr:bB w N ρ S.blks hv y v):bB w N (ρ.take base++es.map (·.eval ρ)) H.blks (nW π H hv) x v:=by
 have hbs:=SS.Og hbd;have hev:∀e:E,e.bd (base+es.length)=true->e.eval (ρ.take base++es.map (·.eval ρ))=(e.subst base es).eval ρ:=fun e he=>E.YB hb e he;unfold Ch at h;split at h
 .trivial
 .rename_i s e s' e';simp only[aP,bR] at h;obtain ⟨rfl,rfl⟩:=h;simp only[SX.bd] at hx;obtain ⟨vs,h1,h2,h3⟩:=hr;exact ⟨vs,by rw[hev e hx];exact h1,h2,LX h3⟩
 .rename_i r n r' n';simp only[aP,bR,Bool.or_eq_true,kK] at h;obtain ⟨⟨⟨⟨s,e,f⟩,hH⟩,vR⟩,hlen⟩:=h;have jd:=Il hH;simp only[SX.bd] at hx;refine ⟨⟨_,jd,by simp⟩,fun s1 e1 p1 hr1 _=>?_⟩;rw[Bw jd] at hr1;simp at hr1;obtain ⟨rfl,rfl,rfl⟩:=hr1;obtain ⟨_,hcase⟩:=hw.row r s e f [] jd;rcases hcase with ⟨q,e',f',hq,hS,he,_⟩|⟨hq,_,_⟩
  .rw[vR] at hq;injection hq with hq;injection hq with hq;subst hq;obtain ⟨h1,h2⟩:=hr.2 s e' [] (Bw hS) (aR ρ);rw[headHv_row jd vR];have hbe:=(hbs r _ jd).2;simp only[LB.bd] at hbe;refine ⟨h1,?_⟩;rcases hlen with hlen|hlen
   .rw[hev n hx,hev e hbe,hlen,he];exact h2
   .unfold isLen at hlen;rw[hH] at hlen;simp at hlen;rw[hlen];simp[E.eval]
  .rw[vR] at hq;simp at hq
 .rename_i r n s;simp only[aP,bR] at h;obtain ⟨vR,hs,hlen⟩:=h;cases hH:rowAt H r with
  |none=>rw[hH] at hs;simp at hs
  |some y=>
   obtain ⟨s',e,f⟩:=y;rw[hH] at hs;simp at hs;subst hs;have jd:=Il hH;refine ⟨⟨_,jd,by simp⟩,fun s1 e1 p1 hr1 _=>?_⟩;rw[Bw jd] at hr1;simp at hr1;obtain ⟨rfl,rfl,rfl⟩:=hr1;rw[Mh jd vR];obtain ⟨vs,h1,h2,h3⟩:=hr;simp only[Exact] at h3;subst h3;refine ⟨by rw[h2];simp[Sh.mk,Sh.isAgg],?_⟩;unfold isLen at hlen;rw[hH] at hlen;simp at hlen;rw[hlen];simp[E.eval]
 .rename_i r off n r' off' n';simp only[aP,bR,kK] at h;obtain ⟨⟨⟨⟨s,e,f⟩,hH⟩,vR⟩,hoff,hn⟩:=h;have jd:=Il hH;simp only[SX.bd,aP] at hx;refine ⟨⟨_,jd,by simp⟩,fun s1 e1 p1 hr1 _=>?_⟩;rw[Bw jd] at hr1;simp at hr1;obtain ⟨rfl,rfl,rfl⟩:=hr1;obtain ⟨_,hcase⟩:=hw.row r s e f [] jd;rcases hcase with ⟨q,e',f',hq,hS,he,_⟩|⟨hq,_,_⟩
  .rw[vR] at hq;injection hq with hq;injection hq with hq;subst hq;have h1:=hr.2 s e' [] (Bw hS) (aR ρ);rw[headHv_row jd vR];have hbe:=(hbs r _ jd).2;simp only[LB.bd] at hbe;rw[hev off hx.1,hev n hx.2,hev e hbe,hoff,hn,he];exact h1
  .rw[vR] at hq;simp at hq
 .rename_i r i fo s bZ r' i' fo' s' aei;simp only[aP,bR,kK] at h;obtain ⟨⟨rfl,⟨cs,f⟩,hH⟩,hi,rfl,rfl,rfl⟩:=h;have jd:=aaJ hH;refine ⟨⟨_,jd,by simp⟩,fun es1 e1 p1 hr1 _=>?_,fun cs1 p1 hr1 _=>?_⟩
  .obtain ⟨f1,hf1⟩:=rowIn_row hr1;rw[jd] at hf1;simp at hf1
  .obtain ⟨_,cs',f',hS,_,_⟩:=hw.box r cs f [] jd;rw[Mi jd];exact hr.2.2 cs' [] (MQ hS) (aR ρ)
 .rename_i f f';simp only[bR] at h;subst h;exact hr
 .simp only[aP,bR] at h;obtain ⟨rfl,rfl,rfl⟩:=h;exact hr
 .simp only[aP,bR,kK] at h;obtain ⟨rfl,⟨k,s,e,f⟩,hH⟩:=h;have jd:=aah hH;exact ⟨⟨_,jd,by simp⟩,by rw[Bu jd (by simp)];exact hr.2⟩
 .simp only[aP,bR,kK] at h;obtain ⟨rfl,⟨s,e,f⟩,hH⟩:=h;have jd:=Z0 hH;exact ⟨⟨_,jd,by simp⟩,by rw[Bu jd (by simp)];exact hr.2⟩
 .simp at h
theorem Vx(hw:Weak base es π H S)(hb:base<=ρ.length)(hbd:H.bd (base+es.length)=true){N:Nat->Prop}:∀ {l m:List SX} {vs:List Value},l.all (·.bd (base+es.length))=true->
  zT base es π H l m=true->dY w N ρ S.blks hv m vs->dY w N (ρ.take base++es.map (·.eval ρ)) H.blks (nW π H hv) l vs
 | [],[],_,_,_,hr=>hr
 | [],_::_,_,_,h,_=>by simp[zT] at h
 |_::_,[],_,_,h,_=>by simp[zT] at h
 |x::l,y::m,_,hl,h,⟨v,r,h1,h2,h3⟩=>by
  simp only[zT,aP] at h;simp only[List.all_cons,aP] at hl;exact ⟨v,r,h1,WX hw hb hbd hl.1 h.1 h2,Vx hw hb hbd hl.2 h.2 h3⟩
theorem LY(hrel : aJ P N0 w0 ρ S hv a w)(hok : xH base es π H S = true)(hb : base <= ρ.length)(hbd : H.bd (base + es.length) = true) :
    aJ P N0 w0 (ρ.take base ++ es.map (·.eval ρ)) H (nW π H hv) a w := by
  have hw := aoq hok;have hbs := SS.Og hbd;have hev : ∀ e : E, e.bd (base + es.length) = true -> e.eval (ρ.take base ++ es.map (·.eval ρ)) = (e.subst base es).eval ρ := fun e he => E.YB hb e he;have live : ∀ r k g, H.blks[r]? = some k -> eG k = true -> bH (nW π H hv r) = some g ->
      ∃ q k', S.blks[q]? = some k' /\ eG k' = true /\ k'.bM = [] /\ bH (hv q) = some g /\ (k.fI = false -> k'.fI = false) /\ ((∃ s e, k.lb = .row s e) -> ren π r = some (some q) /\ ∃ s e, k'.lb = .row s e) /\ ((∀ s e, k.lb ≠ .row s e) -> q = r /\ ∀ s e, k'.lb ≠ .row s e) := by
    intro r k g hk hl hg;obtain ⟨lb, f, p⟩ := k;cases lb with
    | none => cases hl
    | dead => cases hl
    | row s e =>
      obtain ⟨rfl, hcase⟩ := hw.row r s e f p hk;rcases hcase with ⟨q, e', f', hq, hS, he, hf⟩ | ⟨hq, _, _⟩
      . rw [headHv_row hk hq] at hg
        exact ⟨q, _, hS, rfl, rfl, hg, hf, fun _ => ⟨hq, s, e', rfl⟩, fun h => absurd rfl (h s e)⟩
      . rw [Mh hk hq] at hg; cases hg
    | box cs =>
      obtain ⟨rfl, cs', f', hS, hf, _⟩ := hw.box r cs f p hk;rw [Mi hk] at hg;exact ⟨r, _, hS, rfl, rfl, hg, hf, fun ⟨_, _, h⟩ => (by cases h), fun _ => ⟨rfl, by simp⟩⟩
    | mp k s e =>
      obtain ⟨rfl, e', f', hS, hf, _⟩ := hw.mp r k s e f p hk;rw [Bu hk (by simp)] at hg;exact ⟨r, _, hS, rfl, rfl, hg, hf, fun ⟨_, _, h⟩ => (by cases h), fun _ => ⟨rfl, by simp⟩⟩
    | sit s q =>
      obtain ⟨rfl, s', q', f', hS, hf, _⟩ := hw.sit r s q f p hk;rw [Bu hk (by simp)] at hg;exact ⟨r, _, hS, rfl, rfl, hg, hf, fun ⟨_, _, h⟩ => (by cases h), fun _ => ⟨rfl, by simp⟩⟩
  have wH : ∀ b, NN N0 w0.own ρ S.blks hv b -> NN N0 w0.own (ρ.take base ++ es.map (·.eval ρ)) H.blks (nW π H hv) b := by
    intro b hbn;refine ⟨hbn.1, fun r k hk hl hf hp hg => ?_⟩;obtain ⟨q, k', h1, h2, h3, h4, h5, _, _⟩ := live r k b hk hl hg;exact hbn.2 q k' h1 h2 (h5 hf) (by rw [h3]; exact aR ρ) h4
  have hk : ∀ b, NN N0 w0.own ρ S.blks hv b -> b < w.heap.size -> w.heap[b]? = w.heap[b]? /\ NN N0 w0.own (ρ.take base ++ es.map (·.eval ρ)) H.blks (nW π H hv) b := fun b h _ => ⟨rfl, wH b h⟩;have aqC : ∀ {x : SX} {v : Value}, bB w (NN N0 w0.own ρ S.blks hv) ρ S.blks hv x v -> bB w (NN N0 w0.own (ρ.take base ++ es.map (·.eval ρ)) H.blks (nW π H hv)) ρ S.blks hv x v :=
    fun h => h.le (aI _) hk (iQ.refl _ _ _)
  refine ⟨hrel.defers, by rw [hrel.wB, hw.len], hrel.below, fun t x ht hp => ?_, fun t x ht hp => ?_, fun r k hr hp => ?_, fun r r' k k' g hr hr' hne hl hl' hp hp' hg hg' => ?_⟩
  . obtain ⟨_, h1⟩ := hw.tmps t x ht
    rcases h1 with h1 | ⟨y, hy, hyp, h1⟩
    . rw [h1]; trivial
    . exact WX hw hb hbd (SS.Oe hbd ht).2 h1 (aqC (hrel.tmps t y hy (by rw [hyp]; exact aR ρ)))
  . exact absurd (by rw [(hw.tmps t x ht).1]; exact aR _) hp
  . obtain ⟨lb, f, p⟩ := k
    cases lb with
    | none => trivial
    | dead => trivial
    | row s e =>
      obtain ⟨rfl, hcase⟩ := hw.row r s e f p hr;have hbe := (hbs r _ hr).2;simp only [LB.bd] at hbe;rcases hcase with ⟨q, e', f', hq, hS, he, _⟩ | ⟨hq, he, h0⟩
      . obtain ⟨et, xs, h1, h2, h3⟩ := hrel.blks q _ hS (aR ρ)
        refine ⟨et, xs, ?_, ?_, h3⟩
        . rw [headHv_row hr hq, hev e hbe, he]; exact h1
        . rw [hev e hbe, he]; exact h2.mono (aI _) hk
      . refine ⟨0, [], ?_, ?_, by omega⟩
        . rw [Mh hr hq, hev e hbe, he]
          exact ⟨by simp [E.eval], .inl ⟨rfl, by simp [E.eval]⟩⟩
        . rw [hev e hbe, he]; simp [E.eval, bF]
    | box cs =>
      obtain ⟨rfl, cs', f', hS, _, hx⟩ := hw.box r cs f p hr;obtain ⟨g, bt, arr, h1, h2, h3, h4⟩ := hrel.blks r _ hS (aR ρ);have hbe := (hbs r _ hr).2;simp only [LB.bd] at hbe;refine ⟨g, bt, arr, by rw [Mi hr]; exact h1, h2, h3, Vx hw hb hbd hbe hx (h4.le (aI _) hk (iQ.refl _ _ _))⟩
    | mp k s e =>
      obtain ⟨rfl, e', f', hS, _, he⟩ := hw.mp r k s e f p hr;obtain ⟨g, l, h1, h2, h3, h4⟩ := hrel.blks r _ hS (aR ρ);have hbe := (hbs r _ hr).2;simp only [LB.bd] at hbe;refine ⟨g, l, by rw [Bu hr (by simp)]; exact h1, h2, h3, ?_⟩;rw [hev e hbe, he];exact h4.imp fun _ _ h => h.mono (aI _) hk
    | sit s q =>
      obtain ⟨rfl, s', q', f', hS, _, he, he'⟩ := hw.sit r s q f p hr;obtain ⟨g, n, h1, h2, h3, h4⟩ := hrel.blks r _ hS (aR ρ);have hbe := (hbs r _ hr).2;simp only [LB.bd, aP] at hbe;refine ⟨g, n, by rw [Bu hr (by simp)]; exact h1, h2, ?_, ?_⟩
      . rw [hev q hbe.2, he']; exact h3
      . rw [hev s hbe.1, he]; exact h4
  . obtain ⟨q, k1, a1, a2, a3, a4, _, a6, a7⟩ := live r k g hr hl hg
    obtain ⟨q', k1', b1, b2, b3, b4, _, b6, b7⟩ := live r' k' g hr' hl' hg';refine hrel.dist q q' k1 k1' g a1 b1 ?_ a2 b2 (by rw [a3]; exact aR ρ) (by rw [b3]; exact aR ρ) a4 b4;intro e;subst e;rw [a1] at b1;injection b1 with b1;subst b1;by_cases h1 : ∃ s e, k.lb = .row s e
    . by_cases h2 : ∃ s e, k'.lb = .row s e
      . exact hne (hw.inj (a6 h1).1 (b6 h2).1)
      . obtain ⟨_, s1, e1, e2⟩ := a6 h1
        exact (b7 (fun s e h => h2 ⟨s, e, h⟩)).2 _ _ e2
    . have a8 := a7 fun s e h => h1 ⟨s, e, h⟩
      by_cases h2 : ∃ s e, k'.lb = .row s e
      . obtain ⟨_, s1, e1, e2⟩ := b6 h2
        exact a8.2 _ _ e2
      . exact hne (a8.1.symm.trans (b7 fun s e h => h2 ⟨s, e, h⟩).1)
end
section
variable{P:Program}{cfg:dA}{N0:Nat->Prop}{w0:Wb}{ρ:List C}{S M:SS}{hv:Nat->Value}{a:Act}{w:World}{Q:Exit->Act->World->Prop}
def Cv(ρ:List C)(x m:SX):Prop:=m=x\/∃s e e',x= .dat s e/\m= .dat s e'/\e'.eval ρ=e.eval ρ/\∀vs,Exact s e' vs
inductive xO (ρ:List C):List SX->List SX->Prop
 |nil:xO ρ [] []
 |cons {x m:SX} {l k:List SX}:Cv ρ x m->xO ρ l k->xO ρ (x::l) (m::k)
def Ap(ρ:List C)(k0 k:aG):Prop:=k=k0\/∃cs0 cs f,k0=⟨.box cs0,f,[]⟩/\k=⟨.box cs,f,[]⟩/\xO ρ cs0 cs
structure Like (ρ:List C) (S M:SS):Prop where
 len:M.tmps.length=S.tmps.length
 tmps:∀(t:Nat) (m:TS),M.tmps[t]?=some m->m.bM=[]/\(m.sx= .none\/∃x,S.tmps[t]?=some x/\x.bM=[]/\Cv ρ x.sx m.sx)
 fwd:∀(r:Nat) (k:aG),S.blks[r]?=some k->∃k',M.blks[r]?=some k'/\Ap ρ k k'
 bwd:∀(r:Nat) (k:aG),M.blks[r]?=some k->∃k',S.blks[r]?=some k'/\Ap ρ k' k
theorem Cv.rd{N:Nat->Prop}{bs:List aG}{x m:SX}{v:Value}(h:Cv ρ x m)(hr:bB w N ρ bs hv x v):bB w N ρ bs hv m v:=by
 rcases h with rfl|⟨s,e,e',rfl,rfl,h1,h2⟩
 .exact hr
 .obtain ⟨vs,h3,h4,_⟩:=hr;exact ⟨vs,by rw[h1];exact h3,h4,h2 vs⟩
theorem xO.rd{N:Nat->Prop}{bs:List aG}:∀ {l k:List SX} {vs:List Value},xO ρ l k->dY w N ρ bs hv l vs->dY w N ρ bs hv k vs
 | [],_,_,.nil,hr=>hr
 |_::_,_,_,.cons h1 h2,⟨v,r,e,h3,h4⟩=>⟨v,r,e,h1.rd h3,xO.rd h2 h4⟩
theorem Ap.same{k0 k:aG}(h:Ap ρ k0 k):eG k=eG k0/\k.fI=k0.fI/\k.bM=k0.bM/\(k0.lb≠ .none->k.lb≠ .none):=by
 rcases h with rfl|⟨cs0,cs,f,rfl,rfl,_⟩
 .exact ⟨rfl,rfl,rfl,id⟩
 .exact ⟨rfl,rfl,rfl,fun _=>by simp⟩
theorem Like.le(h:Like ρ S M):iQ ρ S.blks M.blks hv hv:=by
 refine ⟨fun r ⟨k,h1,h2⟩=>⟨?_,rfl⟩,fun r s e p _ hr=>?_,fun r cs p _ hr=>?_⟩
 .obtain ⟨k',h3,h4⟩:=h.fwd r k h1;exact ⟨k',h3,h4.same.2.2.2 h2⟩
 .obtain ⟨f,hf⟩:=rowIn_row hr;obtain ⟨k',h3,h4⟩:=h.bwd r _ hf;rcases h4 with h4|⟨_,_,_,_,h4,_⟩
  .subst h4;exact ⟨e,Bw h3,rfl⟩
  .simp at h4
 .obtain ⟨f,hf⟩:=am2 hr;obtain ⟨k',h3,h4⟩:=h.bwd r _ hf;rcases h4 with h4|⟨cs0,_,f',h5,h4,_⟩
  .subst h4;exact ⟨cs,MQ h3⟩
  .subst h5;simp at h4;obtain ⟨rfl,rfl,rfl⟩:=h4;exact ⟨cs0,MQ h3⟩
theorem Like.rel(h:Like ρ S M)(hrel:aJ P N0 w0 ρ S hv a w):aJ P N0 w0 ρ M hv a w:=by
 have wH:∀b,NN N0 w0.own ρ S.blks hv b->NN N0 w0.own ρ M.blks hv b:=by
  intro b hb;refine ⟨hb.1,fun r k hk hl hf hp=>?_⟩;obtain ⟨k',h1,h2⟩:=h.bwd r k hk;obtain ⟨e1,e2,e3,_⟩:=h2.same;exact hb.2 r k' h1 (by rw[<-e1];exact hl) (by rw[<-e2];exact hf) (by rw[<-e3];exact hp)
 have hk:∀b,NN N0 w0.own ρ S.blks hv b->b<w.heap.size->w.heap[b]?=w.heap[b]?/\NN N0 w0.own ρ M.blks hv b:=fun b hb _=>⟨rfl,wH b hb⟩;refine ⟨hrel.defers,by rw[hrel.wB,h.len],hrel.below,fun t m ht hp=>?_,fun t m ht hp=>?_,fun r k hr hp=>?_,fun r r' k k' g hr hr' hne hl hl' hp hp'=>?_⟩
 .obtain ⟨_,h1⟩:=h.tmps t m ht;rcases h1 with h1|⟨x,hx,hxp,h1⟩
  .rw[h1];trivial
  .exact h1.rd ((hrel.tmps t x hx (by rw[hxp];exact aR ρ)).le (aI _) hk h.le)
 .exact absurd (by rw[(h.tmps t m ht).1];exact aR _) hp
 .obtain ⟨k',h1,h2⟩:=h.bwd r k hr;obtain ⟨e1,e2,e3,_⟩:=h2.same;have h3:=(hrel.blks r k' h1 (by rw[<-e3];exact hp)).le (aI _) hk (h.le (hv:=hv)) rfl fun _ _=>rfl;rcases h2 with h2|⟨cs0,cs,f,h4,h5,h6⟩
  .subst h2;exact h3
  .subst h4 h5;obtain ⟨g,bt,arr,i1,i2,i3,i4⟩:=h3;exact ⟨g,bt,arr,i1,i2,i3,h6.rd i4⟩
 .obtain ⟨k1,h1,h2⟩:=h.bwd r k hr;obtain ⟨k2,h3,h4⟩:=h.bwd r' k' hr';obtain ⟨e1,_,e3,_⟩:=h2.same;obtain ⟨e1',_,e3',_⟩:=h4.same;exact hrel.dist r r' k1 k2 g h1 h3 hne (by rw[<-e1];exact hl) (by rw[<-e1'];exact hl') (by rw[<-e3];exact hp) (by rw[<-e3'];exact hp')
theorem Ir{c e e':E}{s:Sh}:(∀vs,Exact s (.ite c e e') vs):=nN (by simp) (by simp)
theorem akt{c:E}{b:Bool}(hc:(c.eval ρ).toBool=b)(x y:SX):Jg c x y= .none\/Cv ρ (if b then x else y) (Jg c x y):=by
 unfold Jg;split
 .rename_i s e s' e';split
  .rename_i hs;subst hs;split
   .rename_i he;subst he;right;left;cases b<;>rfl
   .right;right;cases b
    .exact ⟨s,e',_,rfl,rfl,by simp[E.eval,hc],Ir⟩
    .exact ⟨s,e,_,rfl,rfl,by simp[E.eval,hc],Ir⟩
  .exact .inl rfl
 .split
  .rename_i h;subst h;right;left;cases b<;>rfl
  .exact .inl rfl
theorem VW{c:E}{b:Bool}(hc:(c.eval ρ).toBool=b):∀ {l m:List TS},l.length=m.length->(xE c l m).length=l.length/\∀ {t:Nat} {z:TS},(xE c l m)[t]?=some z->
  z.bM=[]/\(z.sx= .none\/∃x,(if b then l else m)[t]?=some x/\x.bM=[]/\Cv ρ x.sx z.sx)
 | [],[],_=>⟨rfl,fun h=>by simp[xE] at h⟩
 | [],_::_,h=>by simp at h
 |_::_,[],h=>by simp at h
 |x::l,y::m,h=>by
  obtain ⟨h1,h2⟩:=VW hc (l:=l) (m:=m) (by simpa using h);refine ⟨by simp[xE,h1],fun {t z} hz=>?_⟩;cases t with
  |zero=>
   simp only[xE,List.getElem?_cons_zero,bQ] at hz;split at hz
   .rename_i hp;subst hz;refine ⟨rfl,?_⟩;rcases akt hc x.sx y.sx with h3|h3
    .exact .inl h3
    .right;cases b
     .exact ⟨y,rfl,hp.2,h3⟩
     .exact ⟨x,rfl,hp.1,h3⟩
   .subst hz;exact ⟨rfl,.inl rfl⟩
  |succ t=>
   have:=h2 (t:=t) (z:=z) (by simpa [xE] using hz);cases b<;>simpa using this
theorem VX{c:E}{b:Bool}(hc:(c.eval ρ).toBool=b):∀ {l m r:List SX},zN c l m=some r->xO ρ (if b then l else m) r
 | [],[],r,h=>by simp[zN] at h;subst h;cases b<;>exact .nil
 | [],_::_,_,h=>by simp[zN] at h
 |_::_,[],_,h=>by simp[zN] at h
 |x::l,y::m,r,h=>by
  simp only[zN] at h;split at h
  .rename_i r' hr;have ih:=VX hc hr;split at h
   .rename_i he;subst he;simp at h;subst h;cases b<;>exact .cons (.inl rfl) ih
   .split at h
    .rename_i s e s' e' _;split at h
     .rename_i hs;subst hs;simp at h;subst h;cases b
      .exact .cons (.inr ⟨s,e',_,rfl,rfl,by simp[E.eval,hc],Ir⟩) ih
      .exact .cons (.inr ⟨s,e,_,rfl,rfl,by simp[E.eval,hc],Ir⟩) ih
     .simp at h
    .simp at h
  .simp at h
theorem aku{c:E}{b:Bool}(hc:(c.eval ρ).toBool=b){x y k:aG}(h:OB c x y=some k):Ap ρ (if b then x else y) k:=by
 unfold OB at h;split at h
 .rename_i he;subst he;simp at h;subst h;cases b<;>exact .inl rfl
 .split at h
  .rename_i cs f cs' f' _;split at h
   .rename_i hf;subst hf;split at h
    .rename_i r hr;simp at h;subst h;have:=VX hc hr;cases b
     .exact .inr ⟨cs',r,f,rfl,rfl,this⟩
     .exact .inr ⟨cs,r,f,rfl,rfl,this⟩
    .simp at h
   .simp at h
  .simp at h
theorem VY{c:E}{b:Bool}(hc:(c.eval ρ).toBool=b):∀ {l m bs:List aG},zO c l m=some bs->bs.length=(if b then l else m).length/\
  ∀(r:Nat) (k:aG),bs[r]?=some k->∃k',(if b then l else m)[r]?=some k'/\Ap ρ k' k
 | [],[],bs,h=>by simp[zO] at h;subst h;cases b<;>exact ⟨rfl,fun r k hk=>by simp at hk⟩
 | [],_::_,_,h=>by simp[zO] at h
 |_::_,[],_,h=>by simp[zO] at h
 |x::l,y::m,bs,h=>by
  simp only[zO] at h;split at h
  .rename_i k' r' h1 h2;simp at h;subst h;obtain ⟨i1,i2⟩:=VY hc h2;refine ⟨by cases b<;>simpa using i1,fun r k hk=>?_⟩;cases r with
   |zero=>
    simp at hk;subst hk;have:=aku hc h1;cases b
    .exact ⟨y,rfl,this⟩
    .exact ⟨x,rfl,this⟩
   |succ r=>
    have:=i2 r k (by simpa using hk);cases b<;>simpa using this
  .simp at h
theorem LG{c:E}{b:Bool}(hc:(c.eval ρ).toBool=b){S1 S2:SS}(h:OA c S1 S2=some M):Like ρ (if b then S1 else S2) M/\M.nv=S1.nv:=by
 unfold OA at h;split at h
 .rename_i hl;split at h
  .rename_i bs hb;simp at h;subst h;obtain ⟨t1,t2⟩:=VW hc hl.1;obtain ⟨b1,b2⟩:=VY hc hb;have fwd:∀(r:Nat) (k:aG),(if b then S1 else S2).blks[r]?=some k->∃k',bs[r]?=some k'/\Ap ρ k k':=by
    intro r k hk;have hlt:r<bs.length:=by
     rw[b1];have:=(dF.1 hk).1;cases b<;>exact this
    obtain ⟨k',h1,h2⟩:=b2 r bs[r] (by simp[hlt]);have:k'=k:=by
     have e:(if b then S1.blks else S2.blks)[r]?=some k:=by cases b<;>exact hk
     rw[e] at h1;injection h1 with h1;exact h1.symm
    subst this;exact ⟨bs[r],by simp[hlt],h2⟩
   refine ⟨⟨?_,fun t m ht=>?_,fwd,fun r k hk=>?_⟩,rfl⟩
   .cases b
    .exact t1.trans hl.1
    .exact t1
   .have:=t2 ht;cases b<;>exact this
   .have:=b2 r k hk;cases b<;>exact this
  .simp at h
 .simp at h
theorem L6(p:aM)(o:Ob):(o.under p).vars=o.vars:=by cases o<;>rfl
theorem L8{p:aM}(hp:aS ρ p):∀ {l:List Ob} {nv:Nat},dB P ρ nv (l.map (Ob.under p))->dB P ρ nv l
 | [],_,_=>trivial
 |o::l,nv,h=>by
  obtain ⟨h1,h2⟩:=h;rw[L6] at h2;refine ⟨?_,L8 hp h2⟩;cases o with
  |aj q e=>exact fun hq=>h1 (Bh.2 ⟨hp,hq⟩)
  |call q f args aF=>exact fun hq=>h1 (Bh.2 ⟨hp,hq⟩)
theorem zL:∀ {c:Code} {S M:SS} {obs:List Ob},prun P cfg c S=some (M,obs)->M.nv=S.nv/\eP obs=0
 | .skip,S,M,obs,h=>by simp[prun] at h;obtain ⟨rfl,rfl⟩:=h;exact ⟨rfl,rfl⟩
 | .region _ ops draw,S,M,obs,h=>by
  simp only[prun] at h;split at h
  .simp at h
  .split at h
   .rename_i S' ob hr;split at h
    .rename_i hn;simp at h;obtain ⟨rfl,rfl⟩:=h;have:=Mt hr;exact ⟨hn,by omega⟩
    .simp at h
   .simp at h
 | .seq x y,S,M,obs,h=>by
  simp only[prun] at h;split at h
  .rename_i h1;split at h
   .rename_i h2;simp at h;obtain ⟨rfl,rfl⟩:=h;obtain ⟨e1,e2⟩:=zL h1;obtain ⟨e3,e4⟩:=zL h2;simp only[eP,eB,List.sum_append] at*;exact ⟨by omega,by omega⟩
   .simp at h
  .simp at h
 | .cond c x y,S,M,obs,h=>by
  simp only[prun] at h;split at h
  .rename_i e he;split at h
   .rename_i h1 h2;split at h
    .rename_i M' hm;simp at h;obtain ⟨rfl,rfl⟩:=h;obtain ⟨e1,e2⟩:=zL h1;obtain ⟨e3,e4⟩:=zL h2;have hu:∀(p:aM) (l:List Ob),((l.map (Ob.under p)).map Ob.vars).sum=(l.map Ob.vars).sum:=by
      intro p l;rw[qy];congr 1
      exact yM fun o _=>L6 p o
     have rG:M'.nv=_:=(LG (ρ:=[]) (c:=e) rfl hm).2;simp only[eP,eB,List.sum_append,hu] at*;exact ⟨by omega,by omega⟩
    .simp at h
   .simp at h
  .simp at h
 | .block ..,_,_,_,h| .exit _,_,_,_,h| .ret,_,_,_,h| .loop _,_,_,_,h| .scope ..,_,_,_,h| .label _,_,_,_,h| .goto _,_,_,_,h=>by simp[prun] at h
theorem Dz:∀ {c:Code} {S M:SS} {obs:List Ob} {hv:Nat->Value} {a:Act} {w:World} {Q:Exit->Act->World->Prop},aJ P N0 w0 ρ S hv a w->prun P cfg c S=some (M,obs)->dB P ρ S.nv obs->
  (∀a' w',(∃hv',aJ P N0 w0 ρ M hv' a' w')->Q .normal a' w')->c.wp P Q a w
 | .skip,S,M,obs,hv,a,w,Q,hrel,h,_,hq=>by simp[prun] at h;obtain ⟨rfl,rfl⟩:=h;exact wp_skip (hq _ _ ⟨hv,hrel⟩)
 | .region _ ops draw,S,M,obs,hv,a,w,Q,hrel,h,ho,hq=>by
  simp only[prun] at h;split at h
  .simp at h
  .rename_i hd;split at h
   .rename_i S' ob hr;split at h
    .simp at h;obtain ⟨rfl,rfl⟩:=h;exact VP hrel (by simpa using hd) hr ho hq
    .simp at h
   .simp at h
 | .seq x y,S,M,obs,hv,a,w,Q,hrel,h,ho,hq=>by
  simp only[prun] at h;split at h
  .rename_i S1 o1 h1;split at h
   .rename_i S2 o2 h2;simp at h;obtain ⟨rfl,rfl⟩:=h;obtain ⟨e1,e2⟩:=zL h1;rw[rQ] at ho;refine wp_seq (Dz hrel h1 ho.1 fun a' w' ⟨hv',hr'⟩=>?_);refine Dz hr' h2 ?_ hq;have:=ho.2;simp only[eP] at e2;rw[e2,Nat.add_zero] at this;rw[e1];exact this
   .simp at h
  .simp at h
 | .cond c x y,S,M,obs,hv,a,w,Q,hrel,h,ho,hq=>by
  simp only[prun] at h;split at h
  .rename_i e he;split at h
   .rename_i S1 o1 S2 o2 h1 h2;split at h
    .rename_i M' hm;simp at h;obtain ⟨rfl,rfl⟩:=h;have hc:=bC hrel (aR ρ) he;rw[jr] at hc;rw[rQ] at ho;obtain ⟨e1,e2⟩:=zL h1;have hu:((o1.map (Ob.under [(e,true)])).map Ob.vars).sum=0:=by
      rw[qy];simp only[eP] at e2;rw[<-e2];congr 1
      exact yM fun o _=>L6 _ o
     refine wp_cond_split hc (fun ht=>?_) (fun hf=>?_)
     .refine Dz hrel h1 (L8 (Bg.2 ht) ho.1) fun a' w' ⟨hv',hr'⟩=>hq a' w' ⟨hv',?_⟩;exact (LG ht hm).1.rel hr'
     .have h3:=ho.2;rw[hu,Nat.add_zero] at h3;refine Dz hrel h2 (L8 (Bg.2 hf) h3) fun a' w' ⟨hv',hr'⟩=>hq a' w' ⟨hv',?_⟩;exact (LG hf hm).1.rel hr'
    .simp at h
   .simp at h
  .simp at h
 | .block ..,_,_,_,_,_,_,_,_,h,_,_| .exit _,_,_,_,_,_,_,_,_,h,_,_| .ret,_,_,_,_,_,_,_,_,h,_,_| .loop _,_,_,_,_,_,_,_,_,h,_,_
 | .scope ..,_,_,_,_,_,_,_,_,h,_,_| .label _,_,_,_,_,_,_,_,_,h,_,_| .goto _,_,_,_,_,_,_,_,_,h,_,_=>by simp[prun] at h
end
section
variable{P:Program}{cfg:dA}{hints:List Hint}{N0:Nat->Prop}{w0:Wb}{Post:List (Sh×C)->Prop}
def XE.Ot:XE->Exit
 | .normal=> .normal
 | .exit id=> .exit id
 | .ret=> .ret
def Goes(P:Program)(N0:Nat->Prop)(w0:Wb)(Post:List (Sh×C)->Prop)(K:XE->SS->Nat->VC)(Q:Exit->Act->World->Prop)(ρ:List C)(Bs:List (List C->Prop)):Prop:=
 ∀e S' l' ρ' gF hv' a' w',ρ<+:ρ'->Bs<+:gF->gF.length=l'->ρ'.length=S'.nv->aJ P N0 w0 ρ' S' hv' a' w'->(K e S' l').holds P Post gF ρ'->Q e.Ot a' w'
theorem Goes.mono{K:XE->SS->Nat->VC}{Q:Exit->Act->World->Prop}{ρ ρ':List C}{Bs gF:List (List C->Prop)}(h:Goes P N0 w0 Post K Q ρ Bs)(h1:ρ<+:ρ')(h2:Bs<+:gF):Goes P N0 w0 Post K Q ρ' gF:=
 fun e S' l' ρ2 Bs2 hv' a' w' g1 g2=>h e S' l' ρ2 Bs2 hv' a' w' (h1.trans g1) (h2.trans g2)
theorem Xj{α:Type}{l m:List α}(h:l<+:m):m.take l.length=l:=by
 obtain ⟨t,rfl⟩:=h;simp
theorem Xk{Bs gF:List (List C->Prop)}{x d:List C->Prop}(h:Bs++ [x]<+:gF):gF.getD Bs.length d=x:=by
 obtain ⟨t,rfl⟩:=h;simp[List.getD]
theorem Ij:∀(c:Code) {S:SS} {l:Nat} {K:XE->SS->Nat->VC} {ρ:List C} {Bs:List (List C->Prop)} {hv:Nat->Value} {a:Act} {w:World} {Q:Exit->Act->World->Prop},
  aJ P N0 w0 ρ S hv a w->ρ.length=S.nv->Bs.length=l->(sx P cfg hints c S l K).holds P Post Bs ρ->Goes P N0 w0 Post K Q ρ Bs->c.wp P Q a w:=by
 intro c;induction c with
 |skip=>
  intro S l K ρ Bs hv a w Q hrel hn hl h hq;exact wp_skip (hq .normal S l ρ Bs hv a w (List.prefix_refl _) (List.prefix_refl _) hl hn hrel h)
 |region id ops draw=>
  intro S l K ρ Bs hv a w Q hrel hn hl h hq;simp only[sx] at h;split at h
  .exact h.elim
  .rename_i hd;split at h
   .rename_i S' obs hr;split at h
    .rename_i hb;simp only[aP] at hb;rw[<-hn] at hb;obtain ⟨σ,o1,o2,o3⟩:=GU hb.2 h;have hrel':=hrel.env (oo.app ρ σ) hb.1;have rG:=Mt hr;refine aiE hrel' (by simpa using hd) hr (by rw[<-hn];exact o1) fun a' w' ⟨hv',hr'⟩=>?_;exact hq .normal S' l (ρ++σ) Bs hv' a' w' (List.prefix_append _ _) (List.prefix_refl _) hl (by rw[bg,o3,rG,hn]) hr' o2
    .exact h.elim
   .exact h.elim
 |seq x y Dg ihy=>
  intro S l K ρ Bs hv a w Q hrel hn hl h hq;simp only[sx] at h;refine wp_seq (Dg hrel hn hl h fun e S' l' ρ' gF hv' a' w' g1 g2 g3 g4 g5 g6=>?_);cases e with
  |normal=>exact ihy g5 g4 g3 g6 (hq.mono g1 g2)
  |exit id=>exact hq (.exit id) S' l' ρ' gF hv' a' w' g1 g2 g3 g4 g5 g6
  |ret=>exact hq .ret S' l' ρ' gF hv' a' w' g1 g2 g3 g4 g5 g6
 |cond c x y Dg ihy=>
  intro S l K ρ Bs hv a w Q hrel hn hl h hq;simp only[sx] at h;split at h
  .rename_i e he;have hc:=bC hrel (aR ρ) he;rw[jr] at hc;split at h
   .exact wp_cond_true (by simpa [E.eval] using hc) (Dg hrel hn hl h hq)
   .exact wp_cond_false (by simpa [E.eval] using hc) (ihy hrel hn hl h hq)
   .split at h
    .rename_i M obs hp;split at h
     .rename_i hb;simp only[aP] at hb;rw[<-hn] at hb;obtain ⟨σ,o1,o2,o3⟩:=GU hb.2 h;have hrel':=hrel.env (oo.app ρ σ) hb.1;obtain ⟨e1,e2⟩:=zL hp;refine Dz hrel' hp (by rw[<-hn];exact o1) fun a' w' ⟨hv',hr'⟩=>?_;exact hq .normal M l (ρ++σ) Bs hv' a' w' (List.prefix_append _ _) (List.prefix_refl _) hl (by rw[bg,o3,e2,e1,hn,Nat.add_zero]) hr' o2
     .exact h.elim
    .split at h
     .generalize Jf _ (writes (.cond c x y)) S=m at h;obtain ⟨H,es,π⟩:=m;simp only at h;split at h
      .rename_i hok;simp only[aP,bR] at hok;obtain ⟨rG,Dk⟩:=hok;obtain ⟨I,hbody,hrest⟩:=h;rw[rG] at Dk;have land:∀(n:Nat) (e:XE) (S':SS) (l':Nat) (ρ':List C) (gF:List (List C->Prop)) (hv':Nat->Value) (a':Act) (w':World),ρ<+:ρ'->Bs++ [I]<+:gF->gF.length=l'->ρ'.length=S'.nv->aJ P N0 w0 ρ' S' hv' a' w'->
         ((match e with
          | .normal=>match guess S.nv es.length H S' with
           |(es',π')=>if xH S.nv es' π' H S'&&es'.length=es.length then .back l es' else .fail n
          |e=>K e S' l':VC)).holds P Post gF ρ'->Q e.Ot a' w':=by
        intro n e S' l' ρ' gF hv' a' w' p1 g2 g3 g4 g5 g6;have p2:Bs<+:gF:=(List.prefix_append Bs _).trans g2;cases e with
        |normal=>
         simp only at g6;generalize guess S.nv es.length H S'=gs at g6;obtain ⟨es',π'⟩:=gs;simp only at g6;split at g6
         .rename_i hok';simp only[aP,bR] at hok';simp only[VC.holds] at g6;rw[<-hl,Xk g2] at g6;have hlen:S.nv<=ρ'.length:=by rw[<-hn];exact p1.length_le
          have h2:=LY g5 hok'.1 hlen (by rw[hok'.2];exact Dk);rw[<-hn,Xj p1] at h2;have hvs:(es'.map (·.eval ρ')).length=es.length:=by simp[hok'.2]
          exact hq .normal H l (ρ++es'.map (·.eval ρ')) Bs _ a' w' (List.prefix_append _ _) (List.prefix_refl _) hl (by rw[bg,hvs,rG,hn]) h2 (hrest _ hvs g6)
         .exact g6.elim
        |exit id=>exact hq (.exit id) S' l' ρ' gF hv' a' w' p1 p2 g3 g4 g5 g6
        |ret=>exact hq .ret S' l' ρ' gF hv' a' w' p1 p2 g3 g4 g5 g6
       have hl1:(Bs++ [I]).length=l+1:=by rw[bg,hl];rfl
       exact wp_cond_split hc (fun ht=>Dg hrel hn hl1 (hbody.1 ht) (land _)) (fun hf=>ihy hrel hn hl1 (hbody.2 hf) (land _))
      .exact h.elim
     .exact wp_cond_split hc (fun ht=>Dg hrel hn hl (h.1 ht) hq) (fun hf=>ihy hrel hn hl (h.2 hf) hq)
  .rename_i e he;obtain ⟨b,hb,hz⟩:=bC hrel (aR ρ) he;exact wp_cond_split hb (fun ht=>Dg hrel hn hl (h.1 (hz ht)) hq) (fun hf=>ihy hrel hn hl h.2 hq)
  .exact h.elim
 |block id c ih=>
  intro S l K ρ Bs hv a w Q hrel hn hl h hq;simp only[sx] at h;refine wp_block (ih hrel hn hl h fun e S' l' ρ' gF hv' a' w' g1 g2 g3 g4 g5 g6=>?_);cases e with
  |normal=>exact hq .normal S' l' ρ' gF hv' a' w' g1 g2 g3 g4 g5 g6
  |exit id'=>
   simp only[XE.Ot,Exit.inBlock];simp only at g6;split at g6
   .rename_i hid;rw[if_pos hid];exact hq .normal S' l' ρ' gF hv' a' w' g1 g2 g3 g4 g5 g6
   .rename_i hid;rw[if_neg hid];exact hq (.exit id') S' l' ρ' gF hv' a' w' g1 g2 g3 g4 g5 g6
  |ret=>exact hq .ret S' l' ρ' gF hv' a' w' g1 g2 g3 g4 g5 g6
 |exit id=>
  intro S l K ρ Bs hv a w Q hrel hn hl h hq;exact wp_exit (hq (.exit id) S l ρ Bs hv a w (List.prefix_refl _) (List.prefix_refl _) hl hn hrel h)
 |ret=>
  intro S l K ρ Bs hv a w Q hrel hn hl h hq;exact wp_ret (hq .ret S l ρ Bs hv a w (List.prefix_refl _) (List.prefix_refl _) hl hn hrel h)
 |loop c ih=>
  intro S l K ρ Bs hv a w Q hrel hn hl h hq;simp only[sx] at h;generalize Jf _ (writes c) S=m at h;obtain ⟨H,es,π⟩:=m;simp only at h;split at h
  .rename_i hok;simp only[aP,bR] at hok;obtain ⟨hw,rG,Dk,hbS⟩:=hok;obtain ⟨I,μ,h0,hstep⟩:=h;rw[rG] at Dk;have h1:=LY hrel hw (by omega) Dk;have ht:ρ.take S.nv=ρ:=by rw[<-hn];simp
   rw[ht] at h1;refine wp_loop_ghost (fun n a w=>∃vs hv,vs.length=es.length/\I vs/\μ vs=n/\aJ P N0 w0 (ρ++vs) H hv a w) _ ⟨_,_,by simp,h0,rfl,h1⟩ ?_;rintro n a1 w1 ⟨vs,hv1,hvs,hI,rfl,hr1⟩;refine ih hr1 (by rw[bg,hvs,rG,hn]) (by rw[bg,hl];rfl) (hstep vs hvs hI) fun e S' l' ρ' gF hv' a' w' g1 g2 g3 g4 g5 g6=>?_;have p1:ρ<+:ρ':=(List.prefix_append ρ vs).trans g1;have p2:Bs<+:gF:=(List.prefix_append Bs _).trans g2;cases e with
   |normal=>
    simp only at g6;generalize guess S.nv es.length H S'=gs at g6;obtain ⟨es',π'⟩:=gs;simp only at g6;split at g6
    .rename_i hok';simp only[aP,bR] at hok';simp only[VC.holds] at g6;rw[<-hl,Xk g2] at g6;have hlen:S.nv<=ρ'.length:=by rw[<-hn];exact p1.length_le
     have h2:=LY g5 hok'.1 hlen (by rw[hok'.2];exact Dk);rw[<-hn,Xj p1] at h2;exact ⟨_,g6.2,_,_,by simp[hok'.2],g6.1,rfl,h2⟩
    .exact g6.elim
   |exit id=>exact hq (.exit id) S' l' ρ' gF hv' a' w' p1 p2 g3 g4 g5 g6
   |ret=>exact hq .ret S' l' ρ' gF hv' a' w' p1 p2 g3 g4 g5 g6
  .exact h.elim
 |_=>intro S l K ρ Bs hv a w Q hrel hn hl h hq;exact h.elim
end
end Go.Vc
namespace Go.Vc
open Go.RowKit
section
variable{P:Program}{cfg:dA}{hints:List Hint}{N0:Nat->Prop}{w0:Wb}{ρ:List C}{S:SS}{hv:Nat->Value}{a:Act}{w:World}
def CW(N0:Nat->Prop)(w0:Wb)(b:Nat):Prop:=N0 b\/w0.own b
theorem abf{t:TypeId}{v u:Value}(h:(Instr.loadAt t v).run P w= .ok u w):(do loadVar t (<-asAddr v):Sem Value).run P w= .ok u w:=by
 cases v with
 |pointer p=>
  cases p with
  |some b=>simpa [Instr.loadAt,Instr.sureAddr,asAddr] using h
  |none=>simp[Instr.loadAt,Instr.sureAddr,stuck] at h
 |_=>simp[Instr.loadAt,Instr.sureAddr,stuck] at h
theorem Oz(hrel:aJ P N0 w0 ρ S hv a w){f:List Nat}(hf:∀r∈f,jy S.blks ρ r){N:Nat->Prop}(hN:∀b,N b->CW N0 w0 b){b:Nat}(h:NF N hv f b):CW N0 w0 b:=by
 rcases h with h|⟨r,hr,hg⟩
 .exact hN b h
 .obtain ⟨k,h3,hl,h2⟩:=hf r hr;exact .inr (hrel.lt h3 hl h2 hg).2
theorem aJ.aoN(hrel:aJ P N0 w0 ρ S hv a w):nk w w0.own (CW N0 w0) ρ S.blks hv:=by
 refine ⟨fun r s e p hr hp=>?_,fun r k s e p hr hp=>?_⟩
 .obtain ⟨et,xs,h1,h2,h3⟩:=hrel.rows.row r s e p hr hp;exact ⟨et,xs,h1,h2.mono (aI _) fun b hb _=>⟨rfl,hb.1⟩,h3⟩
 .obtain ⟨g,l,h1,h2,h3,h4⟩:=hrel.rows.map r k s e p hr hp;exact ⟨g,l,h1,h2,h3,h4.imp fun _ _ h=>h.mono (aI _) fun b hb _=>⟨rfl,hb.1⟩⟩
theorem abO(hrel:aJ P N0 w0 ρ S hv a w){x:SX}{s:Sh}{e:E}{f:List Nat}{v:Value}(h:iF S.rb [] x=some (s,e,f))(hx:bB w (CW N0 w0) ρ S.blks hv x v):
  bq w (CW N0 w0) s v (e.eval ρ):=by
 have h1:=BQ (uZ hrel.aoN (aR ρ) h hx);exact h1.mono (aI _) fun b hb _=>⟨rfl,Oz hrel (zn (aR ρ) h) (fun _ h=>h) hb⟩
def oM(tmps:Array Value):ResultVar->Sem Value
 | .tmp t=>pure (tmps.getD t undef)
 | .cell b t=>do loadVar t (<-asAddr (tmps.getD b undef))
theorem Ma(hrel:aJ P N0 w0 ρ S hv a w):∀ {l:List ResultVar} {rs:List (Sh×E)},yx P S l=some rs->
  ∃vs,(l.mapM (oM a.tmps)).run P w= .ok vs w/\dH w (CW N0 w0) (dS ρ rs) vs
 | [],rs,h=>by
  simp[yx] at h;subst h;exact ⟨[],by simp,rfl⟩
 | .tmp t::l,rs,h=>by
  simp only[yx] at h;split at h
  .rename_i s e f r h1 h2;simp at h;subst h;obtain ⟨vs,i1,i2⟩:=Ma hrel h2;obtain ⟨x,hx,hd⟩:=qx.1 h1;have h3:=bC hrel (aR ρ) hx;have h4:=abO hrel hd (h3.le (aI _) (fun b hb _=>⟨rfl,hb.1⟩) (iQ.refl _ _ _));refine ⟨a.tmps.getD t undef::vs,by simp only[List.mapM_cons,oM];simp[i1],_,_,rfl,?_,i2⟩;simpa [Act.eval] using h4
  .simp at h
 | .cell t ty::l,rs,h=>by
  simp only[yx] at h;split at h
  .rename_i s e f r h1 h2;simp at h;subst h;obtain ⟨vs,i1,i2⟩:=Ma hrel h2;obtain ⟨o,ho,hd⟩:=qx.1 h1;obtain ⟨f1,e1,e2,_,_,u,e3,e4⟩:=LH hrel.rows hrel.boxes (aR ρ) ho (v:=a.eval (.tmp t)) fun y hy=>bC hrel (aR ρ) hy;have h4:=abO hrel hd (e4.le (aI _) (fun b hb _=>⟨rfl,Oz hrel e2 (fun _ h=>h.1) hb⟩) (iQ.refl _ _ _));have h5:=abf e3;refine ⟨u::vs,?_,_,_,rfl,h4,i2⟩;have h6:a.eval (.tmp t)=a.tmps.getD t undef:=by simp[Act.eval]
   rw[h6] at h5;have h7:(oM a.tmps (.cell t ty)).run P w= .ok u w:=h5;rw[List.mapM_cons];simp[h7,i1]
  .simp at h
theorem Dy{fn:Func}{tmps:Array Value}{vs:List Value}(h:(fn.results.toList.mapM (oM tmps)).run P w= .ok vs w):
  (results fn tmps).run P w= .ok (if h:vs.length=1 then vs[0] else .tuple vs.toArray) w:=by
 have e:results fn tmps=(do let vs <-fn.results.mapM (oM tmps);pure (if h:vs.size=1 then vs[0] else .tuple vs):Sem Value):=by
  unfold results;congr 1
 rw[e,Array.mapM_eq_mapM_toList];simp[h]
theorem L9:∀(l:List Sh) (k i:Nat) (s:Sh) (e:E),(iq k l)[i]?=some (s,e)->l[i]?=some s/\e= .vq (k+i)
 | [],_,_,_,_,h=>by simp[iq] at h
 |x::l,k,0,s,e,h=>by simp[iq] at h;obtain ⟨rfl,rfl⟩:=h;simp
 |x::l,k,i+1,s,e,h=>by
  simp only[iq,List.getElem?_cons_succ] at h;obtain ⟨h1,h2⟩:=L9 l (k+1) i s e h;exact ⟨by simpa using h1,by rw[h2];congr 1;omega⟩
theorem KQ:∀(l:List Sh) (k:Nat),(iq k l).length=l.length
 | [],_=>rfl
 |_::l,k=>by simp[iq,KQ l]
theorem Nl{N:Nat->Prop}:∀ {l:List (Sh×C)} {vs:List Value} {i:Nat} {s:Sh} {c:C},dH w N l vs->l[i]?=some (s,c)->∃v,vs[i]?=some v/\bq w N s v c
 | [],_,_,_,_,_,h=>by simp at h
 |(s,c)::l,_,0,_,_,⟨v,r,h1,h2,h3⟩,h=>by simp at h;obtain ⟨rfl,rfl⟩:=h;exact ⟨v,by simp[h1],h2⟩
 |(s,c)::l,_,i+1,_,_,⟨v,r,h1,h2,h3⟩,h=>by
  obtain ⟨u,h4,h5⟩:=Nl h3 (by simpa using h);exact ⟨u,by simp[h1,h4],h5⟩
theorem LA{args:List (Sh×C)}{vs:List Value}(aL:KW P w)(h:dH w N0 args vs)(n:Nat):
  aJ P N0 ⟨w,fun _=>False⟩ (args.map (·.2)) (pV (args.map (·.1)) n) (fun _=>undef) {tmps:=vs.toArray++Array.replicate (n-vs.toArray.size) undef,defers:=[]} w:=by
 have hlen:=G8 h;have hnone:∀(r:Nat) (k:aG),(pV (args.map (·.1)) n).blks[r]?=some k->k.lb= .none:=by
  intro r k hk;simp only[pV,List.getElem?_replicate] at hk;split at hk
  .injection hk with hk;subst hk;rfl
  .cases hk
 have hlive:∀(r:Nat) (k:aG),(pV (args.map (·.1)) n).blks[r]?=some k->eG k=true->False:=by
  intro r k hk hl;unfold eG at hl;rw[hnone r k hk] at hl;cases hl
 have Gn:∀(t:Nat) (ts:TS),(pV (args.map (·.1)) n).tmps[t]?=some ts->ts.bM=[]/\(ts.sx= .none\/∃s c,args[t]?=some (s,c)/\ts.sx= .dat s (.vq t)):=by
  intro t ts ht;simp only[pV] at ht;rw[List.getElem?_append] at ht;split at ht
  .rw[kM] at ht;cases hr:(iq 0 (args.map (·.1)))[t]? with
   |none=>simp[hr] at ht
   |some x=>
    obtain ⟨s,e⟩:=x;simp[hr] at ht;subst ht;obtain ⟨h1,h2⟩:=L9 _ 0 t s e hr;rw[kM] at h1;cases ha:args[t]? with
    |none=>simp[ha] at h1
    |some y=>
     obtain ⟨s',c⟩:=y;simp[ha] at h1;subst h1;rw[iI] at h2;subst h2;exact ⟨rfl,.inr ⟨s',c,rfl,rfl⟩⟩
  .rw[List.getElem?_replicate] at ht;split at ht
   .injection ht with ht;subst ht;exact ⟨rfl,.inl rfl⟩
   .cases ht
 refine ⟨rfl,?_,⟨rfl,rfl,rfl,aI _,fun _ _ _=>rfl,aL,fun _ _ h=>h⟩,fun t ts ht hp=>?_,fun t ts ht hp=>?_,fun r k hr hp=>?_,fun r r' k k' g hr hr' hne hl=>?_⟩
 .simp[pV,KQ,hlen]
 .rcases (Gn t ts ht).2 with h1|⟨s,c,h1,h2⟩
  .rw[h1];trivial
  .rw[h2];obtain ⟨v,h3,h4⟩:=Nl h h1;have hlt:t<vs.length:=(dF.1 h3).1;have hv:(vs.toArray++Array.replicate (n-vs.toArray.size) undef).getD t undef=v:=by
    have:(vs.toArray++Array.replicate (n-vs.toArray.size) undef)[t]?=some v:=by
     rw[Array.getElem?_append_left (by simpa using hlt)];simpa using h3
    rw[Array.getD_eq_getD_getElem?,this];rfl
   simp only[hv];refine uj ?_ (nN (by simp) (by simp));have he:(E.vq t).eval (args.map (·.2))=c:=by simp[E.eval,List.getD,h1]
   rw[he];exact h4.mono (aI _) fun b hb _=>⟨rfl,.inl hb,fun r k hr hl=>(hlive r k hr hl).elim⟩
 .exact absurd (by rw[(Gn t ts ht).1];exact aR _) hp
 .rw[hnone r k hr];trivial
 .exact (hlive r k hr hl).elim
theorem PC.Ah{f:FuncId}{fn:Func}(hlt:f<1000000)(hf:P.funcs[f]?=some fn)(hname:(fn.name== "runtime.NumGoroutine")=false){bY:List Sh}{vc:VC}(eH:PU P cfg hints fn bY=vc)
  {args aF:List (Sh×C)} (hs:args.map (·.1)=bY) (h:vc.holds P (fun r=>r=aF) [] (args.map (·.2))):PC P f args aF:=by
 apply PC.oF hlt;subst eH hs;unfold PU at h;cases hb:fn.body with
 |none=>simp only[hb] at h;exact h.elim
 |some c=>
  simp only[hb] at h;refine ⟨⟨fn,hf,by simp[hb],hname⟩,fun w N vs aL hrd=>calls_of_wp hf hb ?_⟩;have hst:=LA aL hrd fn.ntmps;refine Ij c hst (by simp[pV]) rfl h fun e S' l' ρ' gF hv' a' w' g1 g2 g3 g4 g5 g6=>?_;have key:(∃rs,yx P S' fn.results.toList=some rs/\dS ρ' rs=aF)->
    a'.defers=[]/\∃v,(results fn a'.tmps).run P w'= .ok v w'/\∃v',Ending.returned v= .returned v'/\JM w' (fun b=>N b\/w.heap.size<=b) aF v'/\Below w.heap.size w w':=by
   rintro ⟨rs,h1,h2⟩;obtain ⟨us,i1,i2⟩:=Ma g5 h1;rw[h2] at i2;refine ⟨g5.defers,_,Dy i1,_,rfl,⟨us,i2.mono (aI _) fun b hb _=>⟨rfl,?_⟩,rfl⟩,g5.below.os,g5.below.tape,g5.below.output,g5.below.size,fun k hk=>g5.below.block k hk (fun h=>h)⟩;rcases hb with hb|hb|hb
   .exact .inl hb
   .exact .inr hb
   .exact hb.elim
  cases e with
  |exit id=>exact g6.elim
  |normal=>
   refine key ?_;simp only at g6;split at g6
   .rename_i rs h1;exact ⟨rs,h1,g6⟩
   .exact g6.elim
  |ret=>
   refine key ?_;simp only at g6;split at g6
   .rename_i rs h1;exact ⟨rs,h1,g6⟩
   .exact g6.elim
theorem M4{N:Nat->Prop}:∀ {s:Sh} {us:List Value} {c:C},s.fQ=true->Rd w N s us c->yI s us
 | .int _,_,_,_,_| .bool,_,_,_,_| .str,_,_,_,_| .unit,_,_,_,_=>trivial
 | .sl _,_,_,hp,_| .bP _ _,_,_,hp,_| .mp _ _,_,_,hp,_=>by cases hp
 | .iX,_,_,_,_| .eU _,_,_,_,_=>trivial
 | .pair a b,_,_,hp,⟨_,va,vb,h1,h2,h3⟩=>by
  simp only[Sh.fQ,aP] at hp;exact ⟨va,vb,h1,h2.length,M4 hp.1 h2,M4 hp.2 h3⟩
theorem GY{N:Nat->Prop}:∀ {s:Sh} {e:E} {us:List Value},qO s e=true->Rd w N s us (e.eval ρ)->Exact s e us->yI s us
 | .int _,_,_,_,_,_| .bool,_,_,_,_,_| .str,_,_,_,_,_| .unit,_,_,_,_,_| .iX,_,_,_,_,_| .eU _,_,_,_,_,_=>trivial
 | .bP _ _,e,_,h,_,_=>by cases e<;>simp[qO] at h
 | .mp _ _,e,_,h,_,_=>by cases e<;>simp[qO] at h
 | .sl s,e,us,h,_,hx=>by
  cases e<;>simp[qO] at h;exact hx
 | .pair a b,e,us,h,hr,hx=>by
  cases e with
  |cons x y=>
   simp only[qO,aP] at h;obtain ⟨h0,va,vb,h1,h2,h3⟩:=hr;obtain ⟨na,nb,n1,n2,n3,n4⟩:=hx;obtain ⟨rfl,rfl⟩:va=na/\vb=nb:=List.append_inj (h1.symm.trans n1) (by rw[h2.length,n2]);exact ⟨va,vb,h1,n2,GY h.1 (by simpa [E.eval] using h2) n3,GY h.2 (Rd.tX h0 (by simp[E.eval]) h3) n4⟩
  |_=>exact M4 (by simpa [qO,Sh.fQ] using h) hr
theorem NC.Ah{f:FuncId}{fn:Func}(hf:P.funcs[f]?=some fn)(hname:(fn.name== "runtime.NumGoroutine")=false){bY:List Sh}{vc:VC}(eH:Pn P cfg hints fn bY=vc)
  {s:Sh} {c1:C} {args:List (Sh×C)} (hs:args.map (·.1)=bY) (h:vc.holds P (fun r=>r=[(s,c1)]) [] (args.map (·.2))):NC P f args [(s,c1)]:=by
 subst eH hs;unfold Pn at h;cases hb:fn.body with
 |none=>simp only[hb] at h;exact h.elim
 |some c=>
  simp only[hb] at h;refine ⟨s,c1,rfl,⟨fn,hf,by simp[hb],hname⟩,fun w N vs aL hrd=>calls_of_wp hf hb ?_⟩;have hst:=LA aL hrd fn.ntmps;refine Ij c hst (by simp[pV]) rfl h fun e S' l' ρ' gF hv' a' w' g1 g2 g3 g4 g5 g6=>?_;have key:((match fn.results.toList with
   | [.tmp t]=>match S'.ev P [] (.tmp t) 0 with
    |some (.dat s e)=>if qO s e then VC.ret [(s,e)] else .fail 8000004
    |_=> .fail 8000002
   | [.cell t ty]=>match vK P S'.rb [] ty (S'.ev P [] (.tmp t) 0) with
    |some ⟨.dat s e,_,_,_⟩=>if qO s e then VC.ret [(s,e)] else .fail 8000004
    |_=> .fail 8000002
   |_=> .fail 8000002):VC).holds P (fun r=>r=[(s,c1)]) gF ρ'->
    a'.defers=[]/\∃v,(results fn a'.tmps).run P w'= .ok v w'/\∃us,Ending.returned v= .returned (s.mk us)/\Rd w' (fun b=>N b\/w.heap.size<=b) s us c1/\yI s us/\Below w.heap.size w w':=by
   intro g6;split at g6
   .rename_i t hres;split at g6
    .rename_i s' e' hx;split at g6
     .rename_i hok;simp only[VC.holds,dS,eZ,jI,iJ,fq,and_true] at g6;obtain ⟨rfl,rfl⟩:=g6;obtain ⟨us,i1,i2,i3⟩:=bC g5 (aR ρ') hx;have hrun:(fn.results.toList.mapM (oM a'.tmps)).run P w'= .ok [s'.mk us] w':=by
       rw[hres];have:a'.tmps.getD t undef=s'.mk us:=by rw[<-i2];simp[Act.eval]
       simp only[List.mapM_cons,List.mapM_nil,oM,this];simp
      have hr:=Dy hrun;simp only[sU,dif_pos] at hr;refine ⟨g5.defers,_,hr,us,rfl,i1.mono (aI _) fun b hb _=>⟨rfl,?_⟩,GY hok i1 i3,g5.below.os,g5.below.tape,g5.below.output,g5.below.size,fun k hk=>g5.below.block k hk (fun h=>h)⟩;rcases hb.1 with hb|hb|hb
      .exact .inl hb
      .exact .inr hb
      .exact hb.elim
     .exact g6.elim
    .exact g6.elim
   .rename_i t ty hres;split at g6
    .rename_i s' e' cm mD ob' hx;split at g6
     .rename_i hok;simp only[VC.holds,dS,eZ,jI,iJ,fq,and_true] at g6;obtain ⟨rfl,rfl⟩:=g6;obtain ⟨f1,e1,e2,_,_,u,e3,e4⟩:=LH g5.rows g5.boxes (aR ρ') hx (v:=a'.eval (.tmp t)) fun y hy=>bC g5 (aR ρ') hy;obtain ⟨us,i1,i2,i3⟩:=e4;have h5:=abf e3;have h6:a'.eval (.tmp t)=a'.tmps.getD t undef:=by simp[Act.eval]
      rw[h6] at h5;have h7:(oM a'.tmps (.cell t ty)).run P w'= .ok u w':=h5;have hrun:(fn.results.toList.mapM (oM a'.tmps)).run P w'= .ok [s'.mk us] w':=by
       rw[hres];rw[List.mapM_cons];simp[h7,i2]
      have hr:=Dy hrun;simp only[sU,dif_pos] at hr;refine ⟨g5.defers,_,hr,us,rfl,i1.mono (aI _) fun b hb _=>⟨rfl,?_⟩,GY hok i1 i3,g5.below.os,g5.below.tape,g5.below.output,g5.below.size,fun k hk=>g5.below.block k hk (fun h=>h)⟩;rcases Oz g5 e2 (fun _ h=>h.1) hb with hb|hb|hb
      .exact .inl hb
      .exact .inr hb
      .exact hb.elim
     .exact g6.elim
    .exact g6.elim
   .exact g6.elim
  cases e with
  |exit id=>exact g6.elim
  |normal=>exact key g6
  |ret=>exact key g6
theorem Mc(hrel:aJ P N0 w0 ρ S hv a w):∀ {l:List ResultVar} {rs:List (Sh×E)} {fz:List Nat},Aq P S l=some (rs,fz)->
  (∀q∈fz,jy S.blks ρ q)/\
  ∃vs,(l.mapM (oM a.tmps)).run P w= .ok vs w/\dH w (NF (NN N0 w0.own ρ S.blks hv) hv fz) (dS ρ rs) vs
 | [],rs,fz,h=>by
  simp[Aq] at h;obtain ⟨rfl,rfl⟩:=h;exact ⟨fun q hq=>by simp at hq,[],by simp,rfl⟩
 | .tmp t::l,rs,fz,h=>by
  simp only[Aq] at h;split at h
  .rename_i s e f r g h1 h2;simp at h;obtain ⟨rfl,rfl⟩:=h;obtain ⟨i0,vs,i1,i2⟩:=Mc hrel h2;obtain ⟨x,hx,hd⟩:=qx.1 h1;have h3:=bC hrel (aR ρ) hx;have h4:=BQ (uZ hrel.rows (aR ρ) hd h3);have h5:=zn (aR ρ) hd;refine ⟨fun q hq=>?_,a.tmps.getD t undef::vs,by simp only[List.mapM_cons,oM];simp[i1],_,_,rfl,?_,?_⟩
   .rcases iZ.1 hq with hq|hq
    .exact h5 q hq
    .exact i0 q hq
   .have e6:a.eval (.tmp t)=a.tmps.getD t undef:=by simp[Act.eval]
    rw[e6] at h4;refine h4.mono (aI _) fun b hb _=>⟨rfl,?_⟩;rcases hb with hb|⟨q,hq,hg⟩
    .exact .inl hb
    .exact .inr ⟨q,iZ.2 (.inl hq),hg⟩
   .refine i2.mono (aI _) fun b hb _=>⟨rfl,?_⟩;rcases hb with hb|⟨q,hq,hg⟩
    .exact .inl hb
    .exact .inr ⟨q,iZ.2 (.inr hq),hg⟩
  .simp at h
 | .cell _ _::_,rs,fz,h=>by simp[Aq] at h
theorem Yh{N:Nat->Prop}{G:Nat->Prop}{wi:World}(hrel:aJ P N ⟨wi,G⟩ ρ S hv a w){v0:Value}(hG:∀g,G g↔bH v0=some g){l:List ResultVar}{rs:List (Sh×E)}(h:Cz P S l=some rs):
  ∃s e rs' v1 vr et xs,rs=(.sl s,e)::rs'/\(l.mapM (oM a.tmps)).run P w= .ok (v1::vr) w/\w.iA (fun g=>wi.heap.size<=g\/bH v0=some g) et s.size v1 (e.eval ρ).toList.length xs/\
   bF w (Behind N wi v0 v1) s xs (e.eval ρ).toList/\dH w (Behind N wi v0 v1) (dS ρ rs') vr:=by
 have EO:∀ {b},(Wb.own ⟨wi,G⟩ b)->wi.heap.size<=b\/bH v0=some b:=fun hb=>hb.imp id (hG _).1;unfold Cz at h;split at h
 .rename_i t l;have e6:a.eval (.tmp t)=a.tmps.getD t undef:=by simp[Act.eval]
  split at h
  .rename_i r n hx;split at h
   .rename_i s e PX fz hor hrf;split at h
    .rename_i hnr;have hnr:r∉fz:=by simpa using hnr
     simp at h;subst h;obtain ⟨hfz,vs,i1,i2⟩:=Mc hrel hrf;have hr:=zl hor;have oz:bV S.blks r=some (s,e,[]):=by simp[bV,hr]
     obtain ⟨hv0,_⟩:=(bC hrel (aR ρ) hx).2 s e [] oz (aR ρ);obtain ⟨et,xs,hown,hrd,_⟩:=hrel.rows.row r s e [] oz (aR ρ);have wH:∀b,NN N (Wb.own ⟨wi,G⟩) ρ S.blks hv b->Behind N wi v0 (hv r) b:=by
      intro b hb;refine ⟨hb.1.imp id EO,hb.2 r _ hr rfl rfl (aR ρ)⟩
     refine ⟨s,e,PX,hv r,vs,et,xs,rfl,?_,zk hown fun g _ hg=>EO hg,hrd.mono (aI _) fun b hb _=>⟨rfl,wH b hb⟩,i2.mono (aI _) fun b hb _=>⟨rfl,?_⟩⟩
     .rw[e6] at hv0;simp only[List.mapM_cons,oM];simp[i1,hv0]
     .rcases hb with hb|⟨q,hq,hg⟩
      .exact wH b hb
      .obtain ⟨k2,e5,el,e4⟩:=hfz q hq;exact ⟨.inr (EO (hrel.lt e5 el e4 hg).2),fun hc=>hrel.dist r q _ _ b hr e5 (fun e=>hnr (e▸hq)) rfl el (aR ρ) e4 hc hg⟩
    .simp at h
   .simp at h
  .rename_i s hx;split at h
   .rename_i PX fz hrf;simp at h;subst h;obtain ⟨hfz,vs,i1,i2⟩:=Mc hrel hrf;obtain ⟨us,e1,e2,e3⟩:=bC hrel (aR ρ) hx;simp only[Exact] at e3;subst e3;have hv0:a.tmps.getD t undef= .slice none 0 0:=by rw[<-e6,e2];simp[Sh.mk,Sh.isAgg]
    refine ⟨s,.aK,PX,.slice none 0 0,vs,0,[],rfl,?_,⟨by simp[E.eval],.inl ⟨rfl,by simp[E.eval]⟩⟩,by simp[E.eval,bF],i2.mono (aI _) fun b hb _=>⟨rfl,?_,by simp[bH]⟩⟩
    .simp only[List.mapM_cons,oM];simp[i1,hv0]
    .rcases hb with hb|⟨q,hq,hg⟩
     .exact hb.1.imp id EO
     .obtain ⟨k2,e5,el,e4⟩:=hfz q hq;exact .inr (EO (hrel.lt e5 el e4 hg).2)
   .simp at h
  .simp at h
 .simp at h
theorem ajw{s:Sh}{c0:C}{args:List (Sh×C)}{et:TypeId}{xs:List Value}{v0:Value}{vs:List Value}(hs0:0<s.size)(hown:w.iA (fun _=>True) et s.size v0 c0.toList.length xs)
  (hrow:bF w N0 s xs c0.toList) (hne:∀g,bH v0=some g->¬N0 g) (aL:KW P w) (hkb:∀g,bH v0=some g->¬uW P g) (h:dH w N0 args vs) (n:Nat):
  aJ P N0 ⟨w,fun g=>bH v0=some g⟩ (c0::args.map (·.2)) (rX s (args.map (·.1)) n) (fun _=>v0) {tmps:=(v0::vs).toArray++Array.replicate (n-(v0::vs).toArray.size) undef,defers:=[]} w:=by
 have hlen:=G8 h;have hblk:∀(r:Nat) (k:aG),(rX s (args.map (·.1)) n).blks[r]?=some k->k.lb= .none\/(r=n+16/\k=⟨.row s (.vq 0),false,[]⟩):=by
  intro r k hk;simp only[rX] at hk;rw[List.getElem?_append] at hk;split at hk
  .rw[List.getElem?_replicate] at hk;split at hk
   .injection hk with hk;subst hk;exact .inl rfl
   .cases hk
  .rename_i hge;have hlt:=(dF.1 hk).1;simp only[mQ,sU] at hlt hge;have hr:r=n+16:=by omega
   subst hr;simp at hk;exact .inr ⟨rfl,hk.symm⟩
 have hq:(rX s (args.map (·.1)) n).blks[n+16]?=some ⟨.row s (.vq 0),false,[]⟩:=by
  simp[rX]
 have wH:∀b,N0 b->NN N0 (Wb.own ⟨w,fun g=>bH v0=some g⟩) (c0::args.map (·.2)) (rX s (args.map (·.1)) n).blks (fun _=>v0) b:=
  fun b hb=>⟨.inl hb,fun r k _ _ _ _ hc=>hne b hc hb⟩
 have Gn:∀(t:Nat) (ts:TS),(rX s (args.map (·.1)) n).tmps[t]?=some ts->ts.bM=[]/\(ts.sx= .none\/(t=0/\ts.sx= .full (n+16) (.len (.vq 0)))\/∃j s c,t=j+1/\args[j]?=some (s,c)/\ts.sx= .dat s (.vq t)):=by
  intro t ts ht;simp only[rX] at ht;rw[List.getElem?_append] at ht;split at ht
  .cases t with
   |zero=>
    simp at ht;subst ht;exact ⟨rfl,.inr (.inl ⟨rfl,rfl⟩)⟩
   |succ j=>
    rw[List.getElem?_cons_succ,kM] at ht;cases hr:(iq 1 (args.map (·.1)))[j]? with
    |none=>simp[hr] at ht
    |some x=>
     obtain ⟨s',e⟩:=x;simp[hr] at ht;subst ht;obtain ⟨h1,h2⟩:=L9 _ 1 j s' e hr;rw[kM] at h1;cases ha:args[j]? with
     |none=>simp[ha] at h1
     |some y=>
      obtain ⟨s2,c⟩:=y;simp[ha] at h1;subst h1;rw[Nat.add_comm] at h2;subst h2;exact ⟨rfl,.inr (.inr ⟨j,s2,c,rfl,ha,rfl⟩)⟩
  .rw[List.getElem?_replicate] at ht;split at ht
   .injection ht with ht;subst ht;exact ⟨rfl,.inl rfl⟩
   .cases ht
 refine ⟨rfl,?_,⟨rfl,rfl,rfl,aI _,fun _ _ _=>rfl,aL,fun g hg hb=>hkb g hb hg⟩,fun t ts ht hp=>?_,fun t ts ht hp=>?_,fun r k hr hp=>?_,fun r r' k k' g hr hr' hne' hl hl' _ _ _=>?_⟩
 .simp[rX,KQ,hlen];omega
 .rcases (Gn t ts ht).2 with h1|⟨rfl,h1⟩|⟨j,s',c,rfl,h1,h2⟩
  .rw[h1];trivial
  .rw[h1];refine ⟨⟨_,hq,by simp⟩,fun s' e p hr _=>?_⟩;simp[bV,hq] at hr;obtain ⟨rfl,rfl,rfl⟩:=hr;refine ⟨?_,rfl⟩;have:((v0::vs).toArray++Array.replicate (n-(v0::vs).toArray.size) undef)[0]?=some v0:=by
    rw[Array.getElem?_append_left (by simp)];simp
   rw[Array.getD_eq_getD_getElem?,this];rfl
  .rw[h2];obtain ⟨v,h3,h4⟩:=Nl h h1;have hlt:j<vs.length:=(dF.1 h3).1;have hv:((v0::vs).toArray++Array.replicate (n-(v0::vs).toArray.size) undef).getD (j+1) undef=v:=by
    have:((v0::vs).toArray++Array.replicate (n-(v0::vs).toArray.size) undef)[j+1]?=some v:=by
     rw[Array.getElem?_append_left (by simpa using hlt)];simpa using h3
    rw[Array.getD_eq_getD_getElem?,this];rfl
   simp only[hv];refine uj ?_ (nN (by simp) (by simp));have he:(E.vq (j+1)).eval (c0::args.map (·.2))=c:=by simp[E.eval,List.getD,h1]
   rw[he];exact h4.mono (aI _) fun b hb _=>⟨rfl,wH b hb⟩
 .exact absurd (by rw[(Gn t ts ht).1];exact aR _) hp
 .rcases hblk r k hr with h1|⟨rfl,rfl⟩
  .rw[h1];trivial
  .exact ⟨et,xs,zk hown fun g hg _=> .inr hg,hrow.mono (aI _) fun b hb _=>⟨rfl,wH b hb⟩,hs0⟩
 .rcases hblk r k hr with h1|⟨rfl,rfl⟩
  .simp[eG,h1] at hl
  .rcases hblk r' k' hr' with h1|⟨rfl,rfl⟩
   .simp[eG,h1] at hl'
   .exact absurd rfl hne'
theorem GC.Ah{f:FuncId}{fn:Func}(hf:P.funcs[f]?=some fn)(hname:(fn.name== "runtime.NumGoroutine")=false){s:Sh}{bY:List Sh}{vc:VC}(eH:Po P cfg hints fn s bY=vc)
  {c0 c1:C} {args aF:List (Sh×C)} (hs:args.map (·.1)=bY) (h:vc.holds P (fun r=>r=(.sl s,c1)::aF) [] (c0::args.map (·.2))):GC P f ((.sl s,c0)::args) ((.sl s,c1)::aF):=by
 subst eH hs;unfold Po at h;split at h
 .rename_i hs0;have hs0:0<s.size:=by simp at hs0;omega
  cases hb:fn.body with
  |none=>simp only[hb] at h;exact h.elim
  |some c=>
   simp only[hb] at h;refine ⟨s,c0,args,c1,aF,rfl,rfl,⟨fn,hf,by simp[hb],hname⟩,fun w N et xs v0 vs aL hkb h1 h2 h3 h4=>calls_of_wp hf hb ?_⟩;have hst:=ajw hs0 h1 h2 h3 aL hkb h4 fn.ntmps;refine Ij c hst (by simp[rX]) rfl h fun e S' l' ρ' gF hv' a' w' g1 g2 g3 g4 g5 g6=>?_;have key:(∃rs,Cz P S' fn.results.toList=some rs/\dS ρ' rs=(.sl s,c1)::aF)->
     a'.defers=[]/\∃v,(results fn a'.tmps).run P w'= .ok v w'/\∃v1 vr dV xs',Ending.returned v= .returned (pack (v1::vr))/\w.grownBy w' (bH v0)/\
      w'.iA (fun g=>w.heap.size<=g\/bH v0=some g) dV s.size v1 c1.toList.length xs'/\bF w' (Behind N w v0 v1) s xs' c1.toList/\dH w' (Behind N w v0 v1) aF vr:=by
    rintro ⟨rs,i1,i2⟩;obtain ⟨s',e',rs',v1,vr,dV,xs',rfl,j1,j2,j3,j4⟩:=Yh g5 (fun g=>Iff.rfl) i1;simp only[dS,eZ,iJ,fq,Sh.sl.injEq] at i2;obtain ⟨⟨rfl,rfl⟩,rfl⟩:=i2;exact ⟨g5.defers,_,Dy j1,v1,vr,dV,xs',rfl,⟨g5.below.os,g5.below.tape,g5.below.output,g5.below.size,fun k hk hn=>g5.below.block k hk fun hc=>hn hc.symm⟩,j2,j3,j4⟩
   cases e with
   |exit id=>exact g6.elim
   |normal=>
    refine key ?_;simp only at g6;split at g6
    .rename_i rs h1;exact ⟨rs,h1,g6⟩
    .exact g6.elim
   |ret=>
    refine key ?_;simp only at g6;split at g6
    .rename_i rs h1;exact ⟨rs,h1,g6⟩
    .exact g6.elim
 .exact h.elim
theorem FC.Ah{f:FuncId}{fn:Func}(hf:P.funcs[f]?=some fn)(hname:(fn.name== "runtime.NumGoroutine")=false){s:Sh}{bY:List Sh}{vc:VC}(eH:Pp P cfg hints fn bY=vc)
  {c1:C} {args aF:List (Sh×C)} (hs:args.map (·.1)=bY) (h:vc.holds P (fun r=>r=(.sl s,c1)::aF) [] (args.map (·.2))):FC P f args ((.sl s,c1)::aF):=by
 subst eH hs;unfold Pp at h;cases hb:fn.body with
 |none=>simp only[hb] at h;exact h.elim
 |some c=>
  simp only[hb] at h;refine ⟨s,c1,aF,rfl,⟨fn,hf,by simp[hb],hname⟩,fun w N vs aL hrd=>calls_of_wp hf hb ?_⟩;have hst:=LA aL hrd fn.ntmps;refine Ij c hst (by simp[pV]) rfl h fun e S' l' ρ' gF hv' a' w' g1 g2 g3 g4 g5 g6=>?_;have key:(∃rs,Cz P S' fn.results.toList=some rs/\dS ρ' rs=(.sl s,c1)::aF)->
    a'.defers=[]/\∃v,(results fn a'.tmps).run P w'= .ok v w'/\∃v1 vr dV xs',Ending.returned v= .returned (pack (v1::vr))/\Below w.heap.size w w'/\
     w'.iA (fun g=>w.heap.size<=g) dV s.size v1 c1.toList.length xs'/\bF w' (Behind N w (.slice none 0 0) v1) s xs' c1.toList/\dH w' (Behind N w (.slice none 0 0) v1) aF vr:=by
   rintro ⟨rs,i1,i2⟩;obtain ⟨s',e',rs',v1,vr,dV,xs',rfl,j1,j2,j3,j4⟩:=Yh g5 (v0:= .slice none 0 0) (fun g=>⟨False.elim,fun h=>by cases h⟩) i1;simp only[dS,eZ,iJ,fq,Sh.sl.injEq] at i2;obtain ⟨⟨rfl,rfl⟩,rfl⟩:=i2;exact ⟨g5.defers,_,Dy j1,v1,vr,dV,xs',rfl,⟨g5.below.os,g5.below.tape,g5.below.output,g5.below.size,fun k hk=>g5.below.block k hk id⟩,zk j2 fun g _ hg=>hg.elim id (fun h=>by cases h),j3,j4⟩
  cases e with
  |exit id=>exact g6.elim
  |normal=>
   refine key ?_;simp only at g6;split at g6
   .rename_i rs h1;exact ⟨rs,h1,g6⟩
   .exact g6.elim
  |ret=>
   refine key ?_;simp only at g6;split at g6
   .rename_i rs h1;exact ⟨rs,h1,g6⟩
   .exact g6.elim
end
end Go.Vc
namespace Go.Vc
structure rH where
 grow:List Nat:=[]
 fresh:List Nat:=[]
 FT:List Nat:=[]
 Au:List (Nat×Sh):=[]
 aF:List (Nat×List Sh):=[]
 cuts:List Nat:=[]
def JI(P:Program)(opt:rH)(fn:Func):Option (List Sh):=fn.params.toList.zipIdx.mapM fun x=>match opt.Au.find? (·.1==x.2) with|some (_,s)=>some s|none=>sW P x.1
def rH.cfg(o:rH)(raw:Bool)(c:Code):dA:= {raw,rows:=aoO c,grow:=o.grow,fresh:=o.fresh,FT:=o.FT,keeps:=apb c,aF:=o.aF,marks:=marksOf c,cuts:=o.cuts}
def OL(P:Program)(raw:Bool)(opt:rH)(hints:List Hint)(fn:Func):List Sh×VC:=
 match JI P opt fn,fn.body with
 |some bY,some c=>(bY,PU P (opt.cfg raw c) hints fn bY)
 |_,_=>([],.fail 9000000)
def I8(P:Program)(raw:Bool)(opt:rH)(hints:List Hint)(fn:Func):List Sh×VC:=
 match JI P opt fn,fn.body with
 |some (.sl s::bY),some c=>(.sl s::bY,Po P (opt.cfg raw c) hints fn s bY)
 |_,_=>([],.fail 9000000)
def Oi(P:Program)(raw:Bool)(opt:rH)(hints:List Hint)(fn:Func):List Sh×VC:=
 match JI P opt fn,fn.body with
 |some bY,some c=>(bY,Pp P (opt.cfg raw c) hints fn bY)
 |_,_=>([],.fail 9000000)
def Oh(P:Program)(raw:Bool)(opt:rH)(hints:List Hint)(fn:Func):List Sh×VC:=
 match JI P opt fn,fn.body with
 |some bY,some c=>(bY,Pn P (opt.cfg raw c) hints fn bY)
 |_,_=>([],.fail 9000000)
theorem PC.aqM{P:Program}{raw:Bool}{opt:rH}{hints:List Hint}{f:FuncId}{fn:Func}(hf:P.funcs[f]?=some fn)(hname:(fn.name== "runtime.NumGoroutine")=false){s:Sh}{bY:List Sh}{vc:VC}
  (eH:Oh P raw opt hints fn=(bY,vc)) {c1:C} {args:List (Sh×C)} (hs:args.map (·.1)=bY) (h:vc.holds P (fun r=>r=[(s,c1)]) [] (args.map (·.2))):
  PC P (3000000+f) args [(s,c1)]:=by
 unfold Oh at eH;split at eH
 .simp only[fq] at eH;exact PC.ofN (NC.Ah hf hname eH.2 (hs.trans eH.1.symm) h)
 .simp only[fq] at eH;rw[<-eH.2] at h;exact h.elim
theorem PC.auto{P:Program}{raw:Bool}{opt:rH}{hints:List Hint}{f:FuncId}{fn:Func}(hlt:f<1000000)(hf:P.funcs[f]?=some fn)(hname:(fn.name== "runtime.NumGoroutine")=false){bY:List Sh}{vc:VC}
  (eH:OL P raw opt hints fn=(bY,vc)) {args aF:List (Sh×C)} (hs:args.map (·.1)=bY) (h:vc.holds P (fun r=>r=aF) [] (args.map (·.2))):PC P f args aF:=by
 unfold OL at eH;split at eH
 .simp only[fq] at eH;exact PC.Ah hlt hf hname eH.2 (hs.trans eH.1.symm) h
 .simp only[fq] at eH;rw[<-eH.2] at h;exact h.elim
theorem PC.adU{P:Program}{raw:Bool}{opt:rH}{hints:List Hint}{f:FuncId}{fn:Func}(hlt:f<1000000)(hf:P.funcs[f]?=some fn)(hname:(fn.name== "runtime.NumGoroutine")=false){s:Sh}{bY:List Sh}{vc:VC}
  (eH:I8 P raw opt hints fn=(.sl s::bY,vc)) {c0 c1:C} {args aF:List (Sh×C)} (hs:args.map (·.1)=bY) (h:vc.holds P (fun r=>r=(.sl s,c1)::aF) [] (c0::args.map (·.2))):
  PC P (1000000+f) ((.sl s,c0)::args) ((.sl s,c1)::aF):=by
 unfold I8 at eH;split at eH
 .simp only[fq,iJ,Sh.sl.injEq] at eH;obtain ⟨⟨rfl,h1⟩,h2⟩:=eH;exact PC.ofG hlt (GC.Ah hf hname h2 (hs.trans h1.symm) h)
 .simp only[fq] at eH;rw[<-eH.2] at h;exact h.elim
theorem PC.aqN{P:Program}{raw:Bool}{opt:rH}{hints:List Hint}{f:FuncId}{fn:Func}(hlt:f<1000000)(hf:P.funcs[f]?=some fn)(hname:(fn.name== "runtime.NumGoroutine")=false){s:Sh}{bY:List Sh}{vc:VC}
  (eH:Oi P raw opt hints fn=(bY,vc)) {c1:C} {args aF:List (Sh×C)} (hs:args.map (·.1)=bY) (h:vc.holds P (fun r=>r=(.sl s,c1)::aF) [] (args.map (·.2))):
  PC P (2000000+f) args ((.sl s,c1)::aF):=by
 unfold Oi at eH;split at eH
 .simp only[fq] at eH;exact PC.ofF hlt (FC.Ah hf hname eH.2 (hs.trans eH.1.symm) h)
 .simp only[fq] at eH;rw[<-eH.2] at h;exact h.elim
abbrev Vp(P:Program)(f:FuncId)(bY:List Sh)(vc:VC):Prop:=∀ {args aF:List (Sh×C)},args.map (·.1)=bY->vc.holds P (fun r=>r=aF) [] (args.map (·.2))->PC P f args aF
theorem Vp.mk{P:Program}{f:FuncId}{fn:Func}(hf:P.funcs[f]?=some fn)(opt:rH)(hints:List Hint){bY:List Sh}{vc:VC}(hlt:f<1000000:=by decide)(hname:(fn.name== "runtime.NumGoroutine")=false:=by kernel_rfl)(eH:OL P true opt hints fn=(bY,vc):=by kernel_rfl):Vp P f bY vc:=fun hs h=>PC.auto hlt hf hname eH hs h
abbrev ah:Sh:= .int .i64
abbrev au:Sh:= .int .u8
abbrev aU:Sh:= .int .u32
abbrev cK:Sh:= .int .u16
abbrev dx:Sh:= .int .u64
section
variable{P:Program}{Post:List (Sh×C)->Prop}{B:List (List C->Prop)}{ρ:List C}{p:aM}{e:E}{k a b:VC}
theorem VC.adl:(VC.aj p e k).holds P Post B ρ=((aS ρ p->(e.eval ρ).toBool=true)/\k.holds P Post B ρ):=id rfl
theorem VC.adk:(VC.cond e a b).holds P Post B ρ=(((e.eval ρ).toBool=true->a.holds P Post B ρ)/\((e.eval ρ).toBool=false->b.holds P Post B ρ)):=id rfl
theorem VC.adW:(VC.wM e a b).holds P Post B ρ=(((e.eval ρ).toList=[]->a.holds P Post B ρ)/\b.holds P Post B ρ):=id rfl
theorem VC.adV{rs:List (Sh×E)}:(VC.ret rs).holds P Post B ρ=Post (dS ρ rs):=id rfl
theorem VC.Fg{lvl:Nat}{es:List E}:(VC.back lvl es).holds P Post B ρ=(B.getD lvl fun _=>False) (es.map (·.eval ρ)):=id rfl
theorem VC.OO{f:Nat}{args:List (Sh×E)}{aF:List Sh}:(VC.call p f args aF k).holds P Post B ρ=
  ∃res:List C,res.length=aF.length/\(aS ρ p->PC P f (dS ρ args) (aF.zip res))/\k.holds P Post B (ρ++res):=id rfl
theorem VC.ab6{f:Nat}{args:List (Sh×E)}{r:Sh}:(VC.call p f args [r] k).holds P Post B ρ=
  ∃x:C,(aS ρ p->PC P f (dS ρ args) [(r,x)])/\k.holds P Post B (ρ++ [x]):=by
 apply propext;rw[VC.OO];constructor
 .rintro ⟨res,h,h1,h2⟩;match res,h with
  | [x],_=>exact ⟨x,h1,h2⟩
 .rintro ⟨x,h1,h2⟩;exact ⟨[x],rfl,h1,h2⟩
theorem VC.ab5{f:Nat}{args:List (Sh×E)}{r r':Sh}:(VC.call p f args [r,r'] k).holds P Post B ρ=
  ∃x y:C,(aS ρ p->PC P f (dS ρ args) [(r,x),(r',y)])/\k.holds P Post B (ρ++ [x,y]):=by
 apply propext;rw[VC.OO];constructor
 .rintro ⟨res,h,h1,h2⟩;match res,h with
  | [x,y],_=>exact ⟨x,y,h1,h2⟩
 .rintro ⟨x,y,h1,h2⟩;exact ⟨[x,y],rfl,h1,h2⟩
theorem VC.ab4{f:Nat}{args:List (Sh×E)}{r r' r'':Sh}:(VC.call p f args [r,r',r''] k).holds P Post B ρ=
  ∃x y z:C,(aS ρ p->PC P f (dS ρ args) [(r,x),(r',y),(r'',z)])/\k.holds P Post B (ρ++ [x,y,z]):=by
 apply propext;rw[VC.OO];constructor
 .rintro ⟨res,h,h1,h2⟩;match res,h with
  | [x,y,z],_=>exact ⟨x,y,z,h1,h2⟩
 .rintro ⟨x,y,z,h1,h2⟩;exact ⟨[x,y,z],rfl,h1,h2⟩
end
def wQ(B B':List (List C->Prop)):Prop:=B.length=B'.length/\∀(i:Nat) (f g:List C->Prop) (vs:List C),B[i]?=some f->B'[i]?=some g->f vs->g vs
theorem wQ.snoc{B B':List (List C->Prop)}(h:wQ B B')(f:List C->Prop):wQ (B++ [f]) (B'++ [f]):=by
 refine ⟨by simp[h.1],fun i g g' vs h1 h2 h3=>?_⟩;by_cases hi:i<B.length
 .rw[rD hi] at h1;rw[rD (by rw[<-h.1];exact hi)] at h2;exact h.2 i g g' vs h1 h2 h3
 .have hi':i=B.length:=by
   have:=(dF.1 h1).1;simp at this;omega
  subst hi';rw[yJ (aI _)] at h1;rw[yJ (by rw[h.1];exact aI _)] at h2;rw[h.1] at h2;simp at h1 h2;subst h1 h2;exact h3
theorem VC.pK{P:Program}{Post:List (Sh×C)->Prop}:∀ {B B':List (List C->Prop)} {ρ:List C} (_:wQ B B') (k:VC),k.holds P Post B ρ->k.holds P Post B' ρ
 |_,_,_,_,.fail _,h=>h
 |_,_,_,hb,.aj _ _ k,h=>⟨h.1,VC.pK hb k h.2⟩
 |_,_,_,hb,.call _ _ _ _ k,h=>let ⟨res,h1,h2,h3⟩:=h;⟨res,h1,h2,VC.pK hb k h3⟩
 |_,_,_,hb,.cond _ a b,h=>⟨fun hc=>VC.pK hb a (h.1 hc),fun hc=>VC.pK hb b (h.2 hc)⟩
 |_,_,_,hb,.wM _ a b,h=>⟨fun hc=>VC.pK hb a (h.1 hc),VC.pK hb b h.2⟩
 |_,_,_,_,.ret _,h=>h
 |_,_,_,hb,.loop _ k,h=>let ⟨I,μ,h1,h2⟩:=h;⟨I,μ,h1,fun vs hl hi=>VC.pK (hb.snoc _) k (h2 vs hl hi)⟩
 |_,_,_,hb,.cut _ k r,h=>let ⟨I,h1,h2⟩:=h;⟨I,VC.pK (hb.snoc _) k h1,fun vs hl hi=>VC.pK hb r (h2 vs hl hi)⟩
 |B,B',ρ,hb,.back lvl es,h=>by
  simp only[VC.Fg,yK] at h |-;cases h1:B[lvl]? with
  |none=>rw[h1] at h;exact h.elim
  |some f=>
   rw[h1] at h;have hlt:lvl<B'.length:=by
    have:=(dF.1 h1).1;have:=hb.1;omega
   rw[iK hlt];exact hb.2 lvl f _ _ h1 (iK hlt) h
section
variable{P:Program}{Post:List (Sh×C)->Prop}{B:List (List C->Prop)}{ρ:List C}{p:aM}{e:E}{k a b:VC}
theorem VC.go_call{f:Nat}{args:List (Sh×E)}{aF:List Sh}{args' p9:List (Sh×C)}(h:PC P f args' p9)(ha:dS ρ args=args')(hr:p9.map (·.1)=aF)
  (hk:k.holds P Post B (ρ++p9.map (·.2))):(VC.call p f args aF k).holds P Post B ρ:=by
 subst ha hr;refine ⟨p9.map (·.2),by simp,fun _=>?_,hk⟩;have:∀l:List (Sh×C),(l.map (·.1)).zip (l.map (·.2))=l:=by
  intro l;induction l with
  |nil=>rfl
  |cons x l ih=>simp[ih]
 rw[this];exact h
theorem VC.go_meet{n:Nat}{b r:VC}(PW:List C)(h1:b.holds P Post (B++ [fun vs=>vs=PW]) ρ)(h2:r.holds P Post B (ρ++PW)):(VC.cut n b r).holds P Post B ρ:=⟨fun vs=>vs=PW,h1,fun vs _ h=>by rw[h];exact h2⟩
theorem VC.aqh(h:(e.eval ρ).toBool=true)(h1:a.holds P Post B ρ):(VC.cond e a b).holds P Post B ρ:=⟨fun _=>h1,fun h'=>absurd (h.symm.trans h') (by decide)⟩
theorem VC.aqL(h:(e.eval ρ).toBool=false)(h1:b.holds P Post B ρ):(VC.cond e a b).holds P Post B ρ:=⟨fun h'=>absurd (h.symm.trans h') (by decide),fun _=>h1⟩
theorem VC.go_loop{init:List E}{St:Type}(enc:St->List C)(I:St->Prop)(μ:St->Nat)(s0:St)(h0:init.map (·.eval ρ)=enc s0)(hI:I s0)
  (h:∀s,I s->k.holds P Post (B++ [fun vs=>∃s',vs=enc s'/\I s'/\μ s'<μ s]) (ρ++enc s)):(VC.loop init k).holds P Post B ρ:=by
 classical
 let Q:List C->Nat->Prop:=fun vs m=>∃s,vs=enc s/\I s/\μ s=m
 have least:∀vs m,Q vs m->∃m0,Q vs m0/\∀m',Q vs m'->m0<=m':=by
  intro vs m;induction m using Nat.strongRecOn with
  |ind m ih=>
   intro hm;by_cases hx:∃m',m'<m/\Q vs m'
   .obtain ⟨m',h1,h2⟩:=hx;exact ih m' h1 h2
   .exact ⟨m,hm,fun m' hm'=>Nat.le_of_not_lt fun hlt=>hx ⟨m',hlt,hm'⟩⟩
 let ν:List C->Nat:=fun vs=>if hx:∃m,Q vs m/\∀m',Q vs m'->m<=m' then Classical.choose hx else 0
 have hν:∀vs,(∃s,vs=enc s/\I s)->Q vs (ν vs)/\∀m',Q vs m'->ν vs<=m':=by
  rintro vs ⟨s,h1,h2⟩;have hx:∃m,Q vs m/\∀m',Q vs m'->m<=m':=least vs (μ s) ⟨s,h1,h2,rfl⟩;have he:ν vs=Classical.choose hx:=dif_pos hx;rw[he];exact Classical.choose_spec hx
 refine ⟨fun vs=>∃s,vs=enc s/\I s,ν,⟨s0,h0,hI⟩,fun vs _ hvs=>?_⟩;obtain ⟨⟨s,h1,h2,h3⟩,_⟩:=hν vs hvs;have hs:=h s h2;rw[<-h1] at hs;refine VC.pK ?_ k hs;refine ⟨by simp,fun i f g vs' hf hg hfv=>?_⟩;by_cases hi:i<B.length
 .rw[rD hi] at hf hg;rw[hf] at hg;cases hg;exact hfv
 .have hi':i=B.length:=by
   have:=(dF.1 hf).1;simp at this;omega
  subst hi';simp at hf hg;subst hf hg;obtain ⟨s',g1,g2,g3⟩:=hfv;refine ⟨⟨s',g1,g2⟩,?_⟩;have:=(hν vs' ⟨s',g1,g2⟩).2 (μ s') ⟨s',g1,g2,rfl⟩;omega
end
theorem Z6(ρ:List C):aS ρ []=True:=by simp[aS]
theorem Zc(ρ:List C)(e:E)(b:Bool)(l:aM):aS ρ ((e,b)::l)=((e.eval ρ).toBool=b/\aS ρ l):=by simp[aS]
section
variable{c:Prop}[Decidable c]{x y:C}{b:Bool}
theorem X6:(if c then x else y).toBool=if c then x.toBool else y.toBool:=by split<;>rfl
theorem YU:(if c then x else y).toInt=if c then x.toInt else y.toInt:=by split<;>rfl
theorem X5:(if c then x else y).toList=if c then x.toList else y.toList:=by split<;>rfl
theorem YT:(if c then x else y).toStr=if c then x.toStr else y.toStr:=by split<;>rfl
theorem abj{a b:Int}:(if c then C.int a else C.int b)=C.int (if c then a else b):=by split<;>rfl
theorem aaK{a b:Bool}:(if c then C.bool a else C.bool b)=C.bool (if c then a else b):=by split<;>rfl
theorem acA{a b:List C}:(if c then C.ls a else C.ls b)=C.ls (if c then a else b):=by split<;>rfl
theorem aaU{a b:List UInt8}:(if c then C.str a else C.str b)=C.str (if c then a else b):=by split<;>rfl
theorem orT:((if c then true else b)=true)=(c\/b=true):=by by_cases h:c<;>simp[h]
theorem orF:((if c then true else b)=false)=(¬c/\b=false):=by by_cases h:c<;>simp[h]
theorem ael:((if c then b else false)=true)=(c/\b=true):=by by_cases h:c<;>simp[h]
theorem aem:((if c then b else false)=false)=(¬c\/b=false):=by by_cases h:c<;>simp[h]
theorem ad1:((!b)=true)=(b=false):=by cases b<;>simp
theorem ad2:((!b)=false)=(b=true):=by cases b<;>simp
theorem nnE{α:Type}{a b:α}:(¬a≠b)=(a=b):=by simp
end
section
variable(ρ:List C)(x y z:E)(n:Int)
theorem acM(i:Nat):(E.vq i).eval ρ=ρ.getD i default:=id rfl
theorem acZ:(E.int n).eval ρ= .int n:=id rfl
theorem abH(b:Bool):(E.bool b).eval ρ= .bool b:=id rfl
theorem acO(s:List UInt8):(E.str s).eval ρ= .str s:=id rfl
theorem acS:E.nil.eval ρ= .ls []:=id rfl
theorem abx:E.aK.eval ρ= .ls []:=id rfl
theorem abG:(E.cons x y).eval ρ= .ls (x.eval ρ::(y.eval ρ).toList):=id rfl
theorem adR:(E.hd x).eval ρ=(x.eval ρ).hd:=id rfl
theorem adQ:(E.tl x).eval ρ=(x.eval ρ).tl:=id rfl
theorem abD(j:Nat):(E.mP j x y).eval ρ=(x.eval ρ).mP j (y.eval ρ):=id rfl
theorem ac6(o:BinOp)(k:IntKind):(E.bin o k x y).eval ρ= .int (arith o k (x.eval ρ).toInt (y.eval ρ).toInt):=id rfl
theorem ac9:(E.raw .add x y).eval ρ= .int ((x.eval ρ).toInt+(y.eval ρ).toInt):=id rfl
theorem abq:(E.raw .sub x y).eval ρ= .int ((x.eval ρ).toInt-(y.eval ρ).toInt):=id rfl
theorem acU:(E.raw .mul x y).eval ρ= .int ((x.eval ρ).toInt*(y.eval ρ).toInt):=id rfl
theorem ac3:(E.cmp .eql x y).eval ρ= .bool (decide ((x.eval ρ).toInt=(y.eval ρ).toInt)):=by simp[E.eval,jk,BEq.beq]
theorem acT:(E.cmp .neq x y).eval ρ= .bool (decide ((x.eval ρ).toInt≠(y.eval ρ).toInt)):=by simp[E.eval,jk,bne,BEq.beq]
theorem acV:(E.cmp .lss x y).eval ρ= .bool (decide ((x.eval ρ).toInt<(y.eval ρ).toInt)):=id rfl
theorem acW:(E.cmp .leq x y).eval ρ= .bool (decide ((x.eval ρ).toInt<=(y.eval ρ).toInt)):=id rfl
theorem ac1:(E.cmp .gtr x y).eval ρ= .bool (decide ((y.eval ρ).toInt<(x.eval ρ).toInt)):=id rfl
theorem ac2:(E.cmp .geq x y).eval ρ= .bool (decide ((y.eval ρ).toInt<=(x.eval ρ).toInt)):=id rfl
theorem abw:(E.oZ .eql x y).eval ρ= .bool (decide ((x.eval ρ).toStr=(y.eval ρ).toStr)):=by
 simp only[E.eval,sQ];congr 1;by_cases h:(x.eval ρ).toStr=(y.eval ρ).toStr<;>simp[h]
theorem abt:(E.oZ .neq x y).eval ρ= .bool (decide ((x.eval ρ).toStr≠(y.eval ρ).toStr)):=by
 simp only[E.eval,sQ];congr 1;by_cases h:(x.eval ρ).toStr=(y.eval ρ).toStr<;>simp[h]
theorem ac7:(E.beq x y).eval ρ= .bool (decide ((x.eval ρ).toBool=(y.eval ρ).toBool)):=by
 simp only[E.eval];congr 1
theorem acR:(E.not x).eval ρ= .bool !(x.eval ρ).toBool:=id rfl
theorem acY:(E.ite x y z).eval ρ=if (x.eval ρ).toBool=true then y.eval ρ else z.eval ρ:=id rfl
theorem abF(k:IntKind):(E.conv k x).eval ρ= .int (k.wrap (x.eval ρ).toInt):=id rfl
theorem abp(k:IntKind):(E.Cw k x).eval ρ= .int (k.wrap (BitVec.ofInt k.bits (if k.signed then-1 else k.max)^^^BitVec.ofInt k.bits (x.eval ρ).toInt).toNat):=id rfl
theorem acX:(E.len x).eval ρ= .int (x.eval ρ).toList.length:=id rfl
theorem abu:(E.eT x).eval ρ= .int (x.eval ρ).toStr.length:=id rfl
theorem ac0:(E.idx x y).eval ρ=(x.eval ρ).toList.getD (y.eval ρ).toInt.toNat default:=id rfl
theorem abv:(E.uF x y).eval ρ= .int ((x.eval ρ).toStr.getD (y.eval ρ).toInt.toNat 0).toNat:=id rfl
theorem acN:(E.sub x y z).eval ρ= .ls (((x.eval ρ).toList.take (z.eval ρ).toInt.toNat).drop (y.eval ρ).toInt.toNat):=id rfl
theorem abr:(E.uD x y z).eval ρ= .str (((x.eval ρ).toStr.take (z.eval ρ).toInt.toNat).drop (y.eval ρ).toInt.toNat):=id rfl
theorem ac8:(E.app x y).eval ρ= .ls ((x.eval ρ).toList++(y.eval ρ).toList):=id rfl
theorem acP:(E.set x y z).eval ρ= .ls ((x.eval ρ).toList.set (y.eval ρ).toInt.toNat (z.eval ρ)):=id rfl
theorem acQ:(E.rep x y).eval ρ= .ls (List.replicate (x.eval ρ).toInt.toNat (y.eval ρ)):=id rfl
theorem ZA:(E.splice x y z).eval ρ= .ls (Vc.splice (x.eval ρ).toList (y.eval ρ).toInt.toNat (z.eval ρ).toList):=id rfl
theorem aar:(E.toStr x).eval ρ= .str (bytesOf (x.eval ρ).toList):=id rfl
theorem aas:(E.ofStr x).eval ρ= .ls (ofBytes (x.eval ρ).toStr):=id rfl
theorem ac5:(E.cat x y).eval ρ= .str ((x.eval ρ).toStr++(y.eval ρ).toStr):=id rfl
theorem abz:(E.l9 x y).eval ρ= .int (min (x.eval ρ).toInt (y.eval ρ).toInt):=id rfl
theorem abC:(E.uJ x y).eval ρ= .int (max (x.eval ρ).toInt (y.eval ρ).toInt):=id rfl
theorem ac4(s:Sh):(E.wK s x y).eval ρ= .bool (jO s (x.eval ρ) (y.eval ρ)):=id rfl
theorem ZB:(E.fits .i64 x).eval ρ= .bool (decide (-9223372036854775808<=(x.eval ρ).toInt/\(x.eval ρ).toInt<=9223372036854775807)):=id rfl
theorem abB:(E.gB x y z).eval ρ=(match gy (x.eval ρ).toList (y.eval ρ).toInt with|some d=>d.tl.hd|none=>z.eval ρ):=id rfl
theorem abA:(E.ql x y).eval ρ= .bool (gy (x.eval ρ).toList (y.eval ρ).toInt).isSome:=id rfl
theorem aby:(E.iP x y z).eval ρ= .ls (lu (x.eval ρ).toList (y.eval ρ).toInt (z.eval ρ)):=id rfl
theorem aat:(E.vL x y).eval ρ= .int (Utf8.decode ⟨(x.eval ρ).toStr.toArray⟩ (y.eval ρ).toInt.toNat).1:=id rfl
theorem abE:(E.vV x y).eval ρ= .int (Utf8.decode ⟨(x.eval ρ).toStr.toArray⟩ (y.eval ρ).toInt.toNat).2:=id rfl
theorem adb:dS ρ []=[]:=id rfl
theorem abK(s:Sh)(l:List (Sh×E)):dS ρ ((s,x)::l)=(s,x.eval ρ)::dS ρ l:=id rfl
theorem bU:(C.int n).toInt=n:=id rfl
theorem iR(b:Bool):(C.bool b).toBool=b:=id rfl
theorem adn(s:List UInt8):(C.str s).toStr=s:=id rfl
theorem gM(l:List C):(C.ls l).toList=l:=id rfl
theorem gJ(c:C)(l:List C):(C.ls (c::l)).hd=c:=id rfl
theorem gX(c:C)(l:List C):(C.ls (c::l)).tl= .ls l:=id rfl
theorem aav{α:Type}(a d:α)(l:List α):(a::l).getD 0 d=a:=id rfl
theorem aaw{α:Type}(a d:α)(l:List α)(n:Nat):(a::l).getD (n+1) d=l.getD n d:=id rfl
theorem aax{α:Type}(a:α)(l m:List α):(a::l)++m=a::(l++m):=id rfl
theorem abI{α:Type}(l:List α): []++l=l:=id rfl
end
@[simp] theorem lY(n:Int):IntKind.u8.wrap n=n%256:=by simp[IntKind.wrap,IntKind.bits,IntKind.signed]
@[simp] theorem zH(n:Int):IntKind.u16.wrap n=n%65536:=by simp[IntKind.wrap,IntKind.bits,IntKind.signed]
@[simp] theorem Ej(n:Int):IntKind.u32.wrap n=n%4294967296:=by simp[IntKind.wrap,IntKind.bits,IntKind.signed]
@[simp] theorem jD(n:Int):IntKind.u64.wrap n=n%18446744073709551616:=by simp[IntKind.wrap,IntKind.bits,IntKind.signed]
theorem Em(n:Int):IntKind.i64.wrap n=(n+9223372036854775808)%18446744073709551616-9223372036854775808:=by
 simp[IntKind.wrap,IntKind.bits,IntKind.signed];split<;>omega
theorem je{n:Int}(h: -9223372036854775808<=n/\n<9223372036854775808):IntKind.i64.wrap n=n:=by rw[Em];omega
@[simp] theorem acw:IntKind.i64.min= -9223372036854775808:=rfl
@[simp] theorem acz:IntKind.i64.max=9223372036854775807:=rfl
@[simp] theorem ar9(k:IntKind)(x y:Int):arith .add k x y=k.wrap (x+y):=rfl
@[simp] theorem ar7(k:IntKind)(x y:Int):arith .sub k x y=k.wrap (x-y):=rfl
@[simp] theorem ar8(k:IntKind)(x y:Int):arith .mul k x y=k.wrap (x*y):=rfl
theorem am7(k:IntKind)(x y:Int)(h:0<=x):arith .quo k x y=k.wrap (x/y):=by simp only[arith];rw[Int.tdiv_eq_ediv_of_nonneg h]
theorem MR(k:IntKind)(x y:Int)(h:0<=x):arith .rem k x y=x%y:=by simp only[arith];rw[Int.tmod_eq_emod_of_nonneg h]
theorem pU(k:IntKind)(x y:Int):arith .shl k x y=k.wrap (x*2^(min y.toNat k.bits)):=rfl
theorem pR(k:IntKind)(x y:Int):arith .shr k x y=x/2^(min y.toNat k.bits):=by
 simp only[arith];exact Int.fdiv_eq_ediv_of_nonneg _ (Int.pow_nonneg (by decide))
theorem HZ(w a:Nat):BitVec.ofInt w (a:Int)=BitVec.ofNat w a:=BitVec.ofInt_natCast w a
theorem ZO{k:IntKind}{n:Nat}(h:n<2^(k.bits-1)):k.wrap (n:Int)=n:=by
 cases k<;>simp[IntKind.wrap,IntKind.bits,IntKind.signed] at h |- <;>omega
theorem YP{k:IntKind}(hs:k.signed=false){n:Nat}(h:n<2^k.bits):k.wrap (n:Int)=n:=by
 cases k<;>simp[IntKind.wrap,IntKind.bits,IntKind.signed] at h hs |- <;>omega
section
variable{k:IntKind}{a b:Nat}
theorem ab0(ha:a<2^k.bits)(hb:b<2^k.bits):(BitVec.ofInt k.bits (a:Int)&&&BitVec.ofInt k.bits (b:Int)).toNat=a&&&b:=by
 rw[HZ,HZ,BitVec.toNat_and,BitVec.toNat_ofNat,BitVec.toNat_ofNat,wo ha,wo hb]
theorem aco(ha:a<2^k.bits)(hb:b<2^k.bits):(BitVec.ofInt k.bits (a:Int)|||BitVec.ofInt k.bits (b:Int)).toNat=a|||b:=by
 rw[HZ,HZ,BitVec.toNat_or,BitVec.toNat_ofNat,BitVec.toNat_ofNat,wo ha,wo hb]
theorem zq(hs:k.signed=false)(ha:a<2^k.bits)(hb:b<2^k.bits):arith .and k a b=((a&&&b:Nat):Int):=by
 simp only[arith,ab0 ha hb];exact YP hs (Nat.and_lt_two_pow _ hb)
theorem wY(hs:k.signed=false)(ha:a<2^k.bits)(hb:b<2^k.bits):arith .or k a b=((a|||b:Nat):Int):=by
 simp only[arith,aco ha hb];exact YP hs (Nat.or_lt_two_pow ha hb)
theorem IU(h:a<2^(k.bits-1)):a<2^k.bits:=zx h (CX (by decide) (Nat.sub_le _ _))
theorem YN(ha:a<2^(k.bits-1))(hb:b<2^(k.bits-1)):arith .and k a b=((a&&&b:Nat):Int):=by
 simp only[arith,ab0 (IU ha) (IU hb)];exact ZO (Nat.and_lt_two_pow _ hb)
theorem ZM(ha:a<2^(k.bits-1))(hb:b<2^(k.bits-1)):arith .or k a b=((a|||b:Nat):Int):=by
 simp only[arith,aco (IU ha) (IU hb)];exact ZO (Nat.or_lt_two_pow ha hb)
end
abbrev B(b:List UInt8):C:= .ls (ofBytes b)
def u8(x:Int):UInt8:=UInt8.ofNat (x%256).toNat
@[simp] theorem ar4:ofBytes []=[]:=rfl
@[simp] theorem bE(b:List UInt8):(ofBytes b).length=b.length:=by simp[ofBytes]
theorem wT(b:List UInt8)(n:Nat):(ofBytes b).take n=ofBytes (b.take n):=by simp[ofBytes]
theorem y9(b:List UInt8)(n:Nat):(ofBytes b).drop n=ofBytes (b.drop n):=by simp[ofBytes]
theorem wS(a b:List UInt8):ofBytes a++ofBytes b=ofBytes (a++b):=by simp[ofBytes]
theorem Xp(n:Nat):List.replicate n (C.int 0)=ofBytes (List.replicate n 0):=by simp[ofBytes]
theorem Dv(b:List UInt8)(i:Nat)(x:UInt8):(ofBytes b).set i (.int x.toNat)=ofBytes (b.set i x):=by
 simp[ofBytes,List.map_set]
theorem lH(b:List UInt8)(i:Nat):(ofBytes b).getD i default= .int (b.getD i 0).toNat:=by
 simp only[ofBytes,List.getD,kM];cases b[i]?<;>rfl
theorem TN(b m:List UInt8)(i:Nat):splice (ofBytes b) i (ofBytes m)=ofBytes (splice b i m):=by simp[splice,ofBytes]
@[simp] theorem Gw(b:List UInt8):bytesOf (ofBytes b)=b:=by
 simp only[bytesOf,ofBytes,qy];conv=>rhs;rw[<-List.map_id b]
 apply yM;intro x _;simp
@[simp] theorem ar5:bytesOf []=[]:=rfl
theorem ajk(b:List UInt8)(i:Nat):(b.getD i 0).toNat<256:=UInt8.toNat_lt _
@[simp] theorem asc(a b:List UInt8):sQ .eql a b=decide (a=b):=by
 by_cases h:a=b
 .simp[sQ,h]
 .simp[sQ,h]
@[simp] theorem asb(a b:List UInt8):sQ .neq a b=decide (a≠b):=by
 by_cases h:a=b
 .simp[sQ,h]
 .simp[sQ,h]
abbrev xJ(l:List Nat):List C:=l.map fun n:Nat=> .int (n:Int)
abbrev Ns(l:List Nat):C:= .ls (xJ l)
theorem LD(l:List Nat)(i:Nat)(h:i<l.length):(xJ l).getD i default= .int (l.getD i 0:Nat):=by
 simp[List.getD,h]
theorem akp(l:List Nat)(n:Nat):xJ l++ [.int (n:Int)]=xJ (l++ [n]):=by simp
theorem qH(v:Nat):IntKind.u8.wrap (v:Int)=((UInt8.ofNat v).toNat:Int):=by
 simp only[lY,mh];omega
end Go.Vc
namespace Go.Vc
open Go
theorem aB:(type_of% @acM)/\(type_of% @acZ)/\(type_of% @abH)/\(type_of% @acO)/\(type_of% @acS)/\(type_of% @abx)/\(type_of% @abG)/\(type_of% @adR)/\(type_of% @adQ)/\(type_of% @abD)/\(type_of% @ac6)/\(type_of% @ac9)/\(type_of% @abq)/\(type_of% @acU)/\(type_of% @ac3)/\(type_of% @acT)/\(type_of% @acV)/\(type_of% @acW)/\(type_of% @ac1)/\(type_of% @ac2)/\(type_of% @abw)/\(type_of% @abt)/\(type_of% @ac7)/\(type_of% @acR)/\(type_of% @acY)/\(type_of% @abF)/\(type_of% @abp)/\(type_of% @acX)/\(type_of% @abu)/\(type_of% @ac0)/\(type_of% @abv)/\(type_of% @acN)/\(type_of% @abr)/\(type_of% @ac8)/\(type_of% @acP)/\(type_of% @acQ)/\(type_of% @ZA)/\(type_of% @aar)/\(type_of% @aas)/\(type_of% @ac5)/\(type_of% @abz)/\(type_of% @abC)/\(type_of% @ac4)/\(type_of% @ZB)/\(type_of% @abB)/\(type_of% @abA)/\(type_of% @aby)/\(type_of% @aat)/\(type_of% @abE)/\(type_of% @adb)/\(type_of% @abK):=⟨@acM, @acZ, @abH, @acO, @acS, @abx, @abG, @adR, @adQ, @abD, @ac6, @ac9, @abq, @acU, @ac3, @acT, @acV, @acW, @ac1, @ac2, @abw, @abt, @ac7, @acR, @acY, @abF, @abp, @acX, @abu, @ac0, @abv, @acN, @abr, @ac8, @acP, @acQ, @ZA, @aar, @aas, @ac5, @abz, @abC, @ac4, @ZB, @abB, @abA, @aby, @aat, @abE, @adb, @abK⟩
theorem aA:(type_of% @aav)/\(type_of% @aaw)/\(type_of% @aax)/\(type_of% @abI)/\(type_of% @List.map_cons.{0,0})/\(type_of% @List.map_nil.{0,0})/\(type_of% @List.zip_cons_cons.{0,0})/\(type_of% @List.zip_nil_right.{0,0})/\(type_of% @List.zip_nil_left.{0,0}):=⟨@aav, @aaw, @aax, @abI, @List.map_cons.{0,0}, @List.map_nil.{0,0}, @List.zip_cons_cons.{0,0}, @List.zip_nil_right.{0,0}, @List.zip_nil_left.{0,0}⟩
theorem ay:(type_of% @bU)/\(type_of% @iR)/\(type_of% @adn)/\(type_of% @gM)/\(type_of% @gJ)/\(type_of% @gX)/\(type_of% @X6)/\(type_of% @YU)/\(type_of% @X5)/\(type_of% @YT)/\(type_of% @abj)/\(type_of% @aaK)/\(type_of% @acA)/\(type_of% @aaU):=⟨@bU, @iR, @adn, @gM, @gJ, @gX, @X6, @YU, @X5, @YT, @abj, @aaK, @acA, @aaU⟩
theorem aH:(type_of% @VC.adl)/\(type_of% @VC.adk)/\(type_of% @VC.adW)/\(type_of% @VC.adV)/\(type_of% @VC.Fg)/\(type_of% @VC.ab6)/\(type_of% @VC.ab5)/\(type_of% @VC.ab4):=⟨@VC.adl, @VC.adk, @VC.adW, @VC.adV, @VC.Fg, @VC.ab6, @VC.ab5, @VC.ab4⟩
theorem aC:(type_of% @Z6)/\(type_of% @Zc)/\(type_of% @orT)/\(type_of% @orF)/\(type_of% @ael)/\(type_of% @aem)/\(type_of% @ad1)/\(type_of% @ad2)/\(type_of% @nnE)/\(type_of% @decide_eq_true_eq)/\(type_of% @decide_eq_false_iff_not)/\(type_of% @true_implies)/\(type_of% @and_true)/\(type_of% @true_and)/\(type_of% @acw)/\(type_of% @acz)/\(type_of% @gt_iff_lt.{0})/\(type_of% @ge_iff_le.{0})/\(type_of% @Int.not_lt)/\(type_of% @Int.not_le):=⟨@Z6, @Zc, @orT, @orF, @ael, @aem, @ad1, @ad2, @nnE, @decide_eq_true_eq, @decide_eq_false_iff_not, @true_implies, @and_true, @true_and, @acw, @acz, @gt_iff_lt.{0}, @ge_iff_le.{0}, @Int.not_lt, @Int.not_le⟩
end Go.Vc
namespace Go.Plain
def be(l:List UInt8):Nat:=l.foldl (fun v x=>v*256+x.toNat) 0
def bT:Nat->Nat->List UInt8
 |0,_=> []
 |n+1,v=>bT n (v/256)++ [UInt8.ofNat v]
theorem aoE{α:Type}{P:List α->Prop}(nil:P [])(snoc:∀l x,P l->P (l++ [x]))(l:List α):P l:=by
 have h:∀(n:Nat) (l:List α),l.length=n->P l:=by
  intro n;induction n with
  |zero=>intro l hl;rw[List.length_eq_zero_iff.1 hl];exact nil
  |succ n ih=>
   intro l hl;rcases List.eq_nil_or_concat l with rfl|⟨m,x,rfl⟩
   .simp at hl
   .rw[List.concat_eq_append] at hl |-;exact snoc m x (ih m (by simpa using hl))
 exact h _ l rfl
@[simp] theorem asf:be []=0:=rfl
@[simp] theorem I7(l:List UInt8)(x:UInt8):be (l++ [x])=be l*256+x.toNat:=by simp[be]
theorem adT(l:List UInt8):be l<256^l.length:=by
 induction l using aoE with
 |nil=>simp
 |snoc l x ih=>
  have:=x.toNat_lt;simp only[I7,List.length_append,List.length_singleton,Nat.pow_succ];omega
@[simp] theorem oG:∀(n v:Nat),(bT n v).length=n
 |0,_=>rfl
 |n+1,v=>by simp[bT,oG n]
theorem BM:∀(n v:Nat),be (bT n v)=v%256^n
 |0,v=>by simp[bT,Nat.mod_one]
 |n+1,v=>by
  simp only[bT,I7,BM n,UInt8.toNat_ofNat'];have h:256^(n+1)=256*256^n:=by rw[Nat.pow_succ,Nat.mul_comm]
  rw[h,Nat.mod_mul];omega
theorem aaP:∀(n:Nat) (l:List UInt8),l.length=n->bT n (be l)=l
 |0,l,h=>by rw[List.length_eq_zero_iff.1 h];rfl
 |n+1,l,h=>by
  rcases List.eq_nil_or_concat l with rfl|⟨m,x,rfl⟩
  .simp at h
  .simp only[List.concat_eq_append] at h |-;have hx:=x.toNat_lt;have h1:(be m*256+x.toNat)/256=be m:=by omega
   simp only[bT,I7,h1];rw[aaP n m (by simpa using h)];congr 2
   apply UInt8.toNat_inj.1;simp only[UInt8.toNat_ofNat'];omega
theorem YV:∀(n v:Nat),bT (n+1) v=UInt8.ofNat (v/256^n)::bT n v
 |0,v=>by simp[bT]
 |n+1,v=>by
  rw[bT,YV n,bT];simp only[List.cons_append,Nat.pow_succ,Nat.div_div_eq_div_mul];rw[Nat.mul_comm]
theorem vG(a k b:Nat)(h:b<2^k):a*2^k|||b=a*2^k+b:=by
 rw[<-Nat.shiftLeft_eq,Nat.shiftLeft_add_eq_or_of_lt h]
theorem aj6(l:List UInt8)(i:Nat)(h:i<l.length):be (l.take (i+1))=be (l.take i)*256+(l.getD i 0).toNat:=by
 rw[List.take_succ_eq_append_getElem h,I7];simp[List.getD,h]
theorem YM(l:List UInt8)(i:Nat):be (l.take i)<256^i:=by
 refine Nat.lt_of_lt_of_le (adT _) (Nat.pow_le_pow_right (by decide) ?_);simp;omega
theorem take_drop(l:List UInt8)(a n:Nat):(l.take (a+n)).drop a=(l.drop a).take n:=by
 rw[List.drop_take,Nat.add_sub_cancel_left]
def Kl(n:Nat)(v:Nat):Int:=if v<2^(8*n-1) then v else (v:Int)-2^(8*n)
end Go.Plain
namespace Go.Plain
structure Hd where
 pad:Bool
 ext:Bool
 mark:Bool
 typ:Int
 seq:Nat
 time:Nat
 aN:Nat
 bD:List Nat
 deriving DecidableEq
def Hd.zero:Hd:=⟨false,false,false,0,0,0,0,[]⟩
def Hd.ok(h:Hd):Prop:=h.seq<65536/\h.time<4294967296/\h.aN<4294967296/\∀c∈h.bD,c<4294967296
def Hd.right(h:Hd):Prop:=0<=h.typ/\h.typ<128/\h.bD.length<16
instance(h:Hd):Decidable h.right:=by unfold Hd.right;exact inferInstance
def Hd.first(h:Hd):Nat:=128+32*h.pad.toNat+16*h.ext.toNat+h.bD.length
def Hd.second(h:Hd):Nat:=128*h.mark.toNat+h.typ.toNat
def words(l:List Nat):List UInt8:=(l.map (bT 4)).flatten
def Hd.bytes(h:Hd):List UInt8:=UInt8.ofNat h.first::UInt8.ofNat h.second::(bT 2 h.seq++(bT 4 h.time++(bT 4 h.aN++words h.bD)))
def at_(b:List UInt8)(i:Nat):Nat:=(b.getD i 0).toNat
def num(b:List UInt8)(i n:Nat):Nat:=be ((b.drop i).take n)
def Hd.of(b:List UInt8):Hd:=
 {pad:=decide (at_ b 0/32%2=1),ext:=decide (at_ b 0/16%2=1),mark:=decide (128<=at_ b 1),typ:=((at_ b 1%128:Nat):Int),seq:=num b 2 2,time:=num b 4 4,aN:=num b 8 4,
  bD:=(List.range (at_ b 0%16)).map fun i=>num b (12+4*i) 4}
def lF(b:List UInt8):Int:=if b.length<12 then 2 else if at_ b 0/64≠2 then 3 else if b.length<12+4*(at_ b 0%16) then 2 else 0
def hdN(b:List UInt8):Nat:=if lF b=0 then 12+4*(at_ b 0%16) else 0
def Dj(b:List UInt8):Hd:=if lF b=0 then Hd.of b else Hd.zero
theorem Iw{b:List UInt8}:lF b=0↔12<=b.length/\at_ b 0/64=2/\12+4*(at_ b 0%16)<=b.length:=by
 unfold lF;split
 .simp;omega
 .split
  .simp;omega
  .split<;>simp<;>omega
theorem GD(l:List Nat):(words l).length=4*l.length:=by
 induction l with
 |nil=>rfl
 |cons x l ih=>simp only[words,List.map_cons,List.flatten_cons,List.length_append,oG,List.length_cons] at ih |-;omega
theorem Hd.uY(h:Hd):h.bytes.length=12+4*h.bD.length:=by
 simp[Hd.bytes,GD];omega
theorem gq(b:List UInt8)(i:Nat):at_ b i<256:=UInt8.toNat_lt _
theorem oK(b:List UInt8)(i n:Nat):num b i n<256^n:=YM _ _
theorem NQ{a b c:List UInt8}{n:Nat}(h:b.length=n):num (a++(b++c)) a.length n=be b:=by
 simp only[num];rw[List.drop_append,List.drop_of_length_le (Nat.le_refl _)];simp[<-h]
theorem Eb(a b:List UInt8)(i n:Nat):num (a++b) (a.length+i) n=num b i n:=by
 simp only[num];rw[<-List.drop_drop,List.drop_left]
theorem YQ:∀(l:List Nat) (r:List UInt8),(∀c∈l,c<4294967296)->((List.range l.length).map fun i=>num (words l++r) (4*i) 4)=l
 | [],_,_=>rfl
 |x::l,r,h=>by
  have h1:=h x (by simp);rw[List.length_cons,List.range_succ_eq_map,List.map_cons,List.map_map];have e1:num (words (x::l)++r) (4*0) 4=x:=by
   have:=NQ (a:=[]) (b:=bT 4 x) (c:=words l++r) (n:=4) (oG _ _);simp only[words,List.map_cons,List.flatten_cons,List.append_assoc] at this |-;simp only[List.nil_append,List.length_nil] at this;rw[Nat.mul_zero,this,BM];omega
  have e2:((fun i=>num (words (x::l)++r) (4*i) 4)∘Nat.succ)=fun i=>num (words l++r) (4*i) 4:=by
   funext i
   have:=Eb (bT 4 x) (words l++r) (4*i) 4;rw[oG] at this;simp only[Function.comp,words,List.map_cons,List.flatten_cons,List.append_assoc] at this |-;rw[<-this];congr 1
   omega
  rw[e1,e2,YQ l r (fun c hc=>h c (by simp[hc]))]
theorem Ca{b:List UInt8}{i n:Nat}(h:i+n<=b.length):bT n (num b i n)=(b.drop i).take n:=by
 apply aaP;simp;omega
theorem ak7(b:List UInt8)(h:12<=b.length):b=UInt8.ofNat (at_ b 0)::UInt8.ofNat (at_ b 1)::b.drop 2:=by
 match b,h with
 |x::y::l,_=>
  simp[at_]
theorem XW(b:List UInt8):∀n:Nat,4*n<=b.length->words ((List.range n).map fun i=>num b (4*i) 4)=b.take (4*n)
 |0,_=>by simp[words]
 |n+1,h=>by
  rw[List.range_succ,List.map_append];have e:words (((List.range n).map fun i=>num b (4*i) 4)++ [num b (4*n) 4])=words ((List.range n).map fun i=>num b (4*i) 4)++bT 4 (num b (4*n) 4):=by
   simp[words]
  simp only[List.map_cons,List.map_nil];rw[e,XW b n (by omega),Ca (by omega),Nat.mul_succ,List.take_add]
theorem Hd.same(b:List UInt8)(h:lF b=0):(Hd.of b).right/\(Hd.of b).ok/\(Hd.of b).bD.length=at_ b 0%16/\(Hd.of b).bytes=b.take (12+4*(at_ b 0%16)):=by
 have hz:=Iw.1 h;have h0:=gq b 0;have h1:=gq b 1;have hl:(Hd.of b).bD.length=at_ b 0%16:=by simp[Hd.of]
 refine ⟨?_,?_,hl,?_⟩
 .have e:(Hd.of b).typ=((at_ b 1%128:Nat):Int):=rfl;refine ⟨by omega,by omega,by rw[hl];omega⟩
 .refine ⟨oK _ _ 2,oK _ _ 4,oK _ _ 4,?_⟩;intro c hc;simp only[Hd.of,List.mem_map] at hc;obtain ⟨i,_,rfl⟩:=hc;exact oK _ _ 4
 .have f1:(Hd.of b).first=at_ b 0:=by
   simp only[Hd.first,hl];have e1:(Hd.of b).pad=decide (at_ b 0/32%2=1):=rfl;have e2:(Hd.of b).ext=decide (at_ b 0/16%2=1):=rfl;rw[e1,e2];by_cases q1:at_ b 0/32%2=1<;>by_cases q2:at_ b 0/16%2=1<;>simp[q1,q2]<;>omega
  have f2:(Hd.of b).second=at_ b 1:=by
   simp only[Hd.second];have e1:(Hd.of b).mark=decide (128<=at_ b 1):=rfl;have e2:(Hd.of b).typ=((at_ b 1%128:Nat):Int):=rfl;rw[e1,e2];by_cases q1:128<=at_ b 1<;>simp[q1]<;>omega
  have g1:bT 2 (Hd.of b).seq=(b.drop 2).take 2:=Ca (by omega);have g2:bT 4 (Hd.of b).time=(b.drop 4).take 4:=Ca (by omega);have g3:bT 4 (Hd.of b).aN=(b.drop 8).take 4:=Ca (by omega);have g4:words (Hd.of b).bD=(b.drop 12).take (4*(at_ b 0%16)):=by
   rw[<-XW (b.drop 12) (at_ b 0%16) (by simp;omega)];congr 1
   simp only[Hd.of];apply List.map_congr_left;intro i _;simp[num,List.drop_drop]
  rw[Hd.bytes,f1,f2,g1,g2,g3,g4];have asz:∀(n m:Nat) (l:List UInt8),(l.drop n).take m++(l.drop (n+m))=l.drop n:=by
   intro n m l;rw[<-List.drop_drop,List.take_append_drop]
  have e5:(12+4*(at_ b 0%16))=2+(2+(4+(4+4*(at_ b 0%16)))):=by omega
  generalize hm:4*(at_ b 0%16)=m at*;have hb:=ak7 b hz.1;have e6:b.take (2+(2+(4+(4+m))))=UInt8.ofNat (at_ b 0)::UInt8.ofNat (at_ b 1)::(b.drop 2).take (2+(4+(4+m))):=by
   conv=>lhs;rw[hb]
   rw[show 2+(2+(4+(4+m)))=(2+(4+(4+m)))+1+1 by omega,List.take_succ_cons,List.take_succ_cons]
  rw[e5,e6];have tk:∀(n m k:Nat),((b.drop k).take (n+m))=(b.drop k).take n++(b.drop (k+n)).take m:=by
   intro n m k;rw[List.take_add,List.drop_drop]
  rw[tk 2 _ 2,tk 4 _ 4,tk 4 _ 8]
end Go.Plain
namespace Go.Plain
structure El where
 id:Int
 data:List UInt8
deriving DecidableEq
def El.zero:El:=⟨0,[]⟩
def aZ(l:List El):List Int:=l.map (·.id)
def vU(l:List El)(j:Nat):Prop:=1<=(l.getD j El.zero).id/\(l.getD j El.zero).id<=255/\(l.getD j El.zero).data.length<=255/\(l.getD j El.zero).id∉aZ (l.take j)
instance(l:List El)(j:Nat):Decidable (vU l j):=by unfold vU;exact inferInstance
def iM(l:List El):Prop:=∀j,j<l.length->vU l j
instance(l:List El):Decidable (iM l):=by unfold iM;exact inferInstance
structure Sp where
 id:Nat
 pos:Nat
 size:Nat
deriving DecidableEq
def Sp.zero:Sp:=⟨0,0,0⟩
def bI(ak:Bool)(b:List UInt8)(p:Nat):Sp:=if ak then ⟨at_ b p/16,p+1,at_ b p%16+1⟩ else ⟨at_ b p,p+2,at_ b (p+1)⟩
def ku(l:List Sp):List Nat:=l.map (·.id)
theorem D9(ak:Bool)(b:List UInt8)(p:Nat):p<(bI ak b p).pos+(bI ak b p).size:=by
 unfold bI;split<;>simp only<;>omega
def wk(ak:Bool)(b:List UInt8)(p:Nat)(out:List Sp):List Sp×Int:=
 if h:p<b.length then
  if at_ b p=0 then wk ak b (p+1) out
  else if ak=true/\(at_ b p/16=15\/at_ b p/16=0) then (out,0)
  else if ak=false/\b.length<=p+1 then ([],4)
  else if b.length<(bI ak b p).pos+(bI ak b p).size then ([],4)
  else if (bI ak b p).id∈ku out then ([],6)
  else wk ak b ((bI ak b p).pos+(bI ak b p).size) (out++ [bI ak b p])
 else (out,0)
termination_by b.length-p
decreasing_by
 .omega
 .have:=D9 ak b p;omega
theorem vE{ak:Bool}{b:List UInt8}{p:Nat}{out:List Sp}(h:¬p<b.length):wk ak b p out=(out,0):=by rw[wk,dif_neg h]
theorem BK{ak:Bool}{b:List UInt8}{p:Nat}{out:List Sp}(h:p<b.length)(h0:at_ b p=0):wk ak b p out=wk ak b (p+1) out:=by rw[wk,dif_pos h,if_pos h0]
theorem En{ak:Bool}{b:List UInt8}{p:Nat}{out:List Sp}(h:p<b.length)(h0:¬at_ b p=0)(h1:ak=true/\(at_ b p/16=15\/at_ b p/16=0)):wk ak b p out=(out,0):=by rw[wk,dif_pos h,if_neg h0,if_pos h1]
theorem Ii{ak:Bool}{b:List UInt8}{p:Nat}{out:List Sp}(h:p<b.length)(h0:¬at_ b p=0)(h1:¬(ak=true/\(at_ b p/16=15\/at_ b p/16=0)))(h2:ak=false/\b.length<=p+1):wk ak b p out=([],4):=by
 rw[wk,dif_pos h,if_neg h0,if_neg h1,if_pos h2]
theorem Eo{ak:Bool}{b:List UInt8}{p:Nat}{out:List Sp}(h:p<b.length)(h0:¬at_ b p=0)(h1:¬(ak=true/\(at_ b p/16=15\/at_ b p/16=0)))(h2:¬(ak=false/\b.length<=p+1))
  (h3:b.length<(bI ak b p).pos+(bI ak b p).size):wk ak b p out=([],4):=by
 rw[wk,dif_pos h,if_neg h0,if_neg h1,if_neg h2,if_pos h3]
theorem D6{ak:Bool}{b:List UInt8}{p:Nat}{out:List Sp}(h:p<b.length)(h0:¬at_ b p=0)(h1:¬(ak=true/\(at_ b p/16=15\/at_ b p/16=0)))(h2:¬(ak=false/\b.length<=p+1))
  (h3:¬b.length<(bI ak b p).pos+(bI ak b p).size) (h4:(bI ak b p).id∈ku out):wk ak b p out=([],6):=by
 rw[wk,dif_pos h,if_neg h0,if_neg h1,if_neg h2,if_neg h3,if_pos h4]
theorem wk_step{ak:Bool}{b:List UInt8}{p:Nat}{out:List Sp}(h:p<b.length)(h0:¬at_ b p=0)(h1:¬(ak=true/\(at_ b p/16=15\/at_ b p/16=0)))(h2:¬(ak=false/\b.length<=p+1))
  (h3:¬b.length<(bI ak b p).pos+(bI ak b p).size) (h4:¬(bI ak b p).id∈ku out):wk ak b p out=wk ak b ((bI ak b p).pos+(bI ak b p).size) (out++ [bI ak b p]):=by
 rw[wk,dif_pos h,if_neg h0,if_neg h1,if_neg h2,if_neg h3,if_neg h4]
end Go.Plain
namespace Go.Plain
def spots(aD:Nat)(b:List UInt8):List Sp×Int:=
 if aD=48862 then wk true b 0 [] else if aD/16=256 then wk false b 0 [] else ([],6)
def gN(b:List UInt8)(s:Sp):El:=⟨(s.id:Int),(b.drop s.pos).take s.size⟩
def oL(aD:Nat)(b:List UInt8):List El:=(spots aD b).1.map (gN b)
def jw(ak:Bool)(e:El):Prop:=if ak then 1<=e.id/\e.id<=14/\1<=e.data.length/\e.data.length<=16 else 1<=e.id/\e.id<=255/\e.data.length<=255
instance(ak:Bool)(e:El):Decidable (jw ak e):=by unfold jw;exact inferInstance
def tQ(l:List El):Bool:=decide (∀e∈l,jw true e)
def rT(l:List El):Nat:=if iM l then (if tQ l then 48862 else 4096) else 0
def enc(ak:Bool)(e:El):List UInt8:=if ak then UInt8.ofNat (16*e.id.toNat+e.data.length-1)::e.data else UInt8.ofNat e.id.toNat::UInt8.ofNat e.data.length::e.data
def qd(ak:Bool)(l:List El):List UInt8:=l.flatMap (enc ak)
def Am(b:List UInt8):List UInt8:=b++List.replicate ((4-b.length%4)%4) 0
def vD(l:List El):List UInt8:=Am (qd (tQ l) l)
def ahead(ak:Bool):Nat:=if ak then 1 else 2
theorem Hq(ak:Bool)(e:El):(enc ak e).length=ahead ak+e.data.length:=by
 unfold enc ahead;cases ak<;>simp<;>omega
theorem aj7{a b:List UInt8}(i:Nat):at_ (a++b) (a.length+i)=at_ b i:=by
 unfold at_;rw[List.getD_eq_getElem?_getD,List.getD_eq_getElem?_getD,List.getElem?_append_right (by omega)];congr 3;omega
theorem XT{a b:List UInt8}:at_ (a++b) a.length=at_ b 0:=aj7 0
theorem Mk{e:El}(h:jw true e):1<=e.id/\e.id<=14/\1<=e.data.length/\e.data.length<=16:=by simpa [jw] using h
theorem akO{e:El}(h:jw false e):1<=e.id/\e.id<=255/\e.data.length<=255:=by simpa [jw] using h
theorem ZP(ak:Bool)(r:List UInt8)(out:List Sp):∀(n:Nat) (p:List UInt8),wk ak (p++(List.replicate n 0++r)) p.length out=wk ak (p++(List.replicate n 0++r)) (p.length+n) out
 |0,_=>rfl
 |n+1,p=>by
  have h0:at_ (p++(List.replicate (n+1) 0++r)) p.length=0:=by
   rw[XT,List.replicate_succ];rfl
  rw[BK (by simp;omega) h0];have e:p++(List.replicate (n+1) 0++r)=(p++ [0])++(List.replicate n 0++r):=by simp[List.replicate_succ]
  have ih:=ZP ak r out n (p++ [0]);rw[e];rw[show p.length+1=(p++ [0]).length by simp];rw[ih];congr 1
  simp;omega
def lay(ak:Bool)(l:List (Nat×El)):List UInt8:=l.flatMap fun x=>List.replicate x.1 0++enc ak x.2
def mK(ak:Bool):Nat->List (Nat×El)->List Sp
 |_,[]=> []
 |p,(n,e)::l=>⟨e.id.toNat,p+n+ahead ak,e.data.length⟩::mK ak (p+n+(enc ak e).length) l
theorem abg(ak:Bool):∀(l:List (Nat×El)) (p r:List UInt8),(∀x∈l,jw ak x.2)->(mK ak p.length l).map (gN (p++(lay ak l++r)))=l.map (·.2)
 | [],_,_,_=>rfl
 |(n,e)::l,p,r,hf=>by
  have e1:p++(lay ak ((n,e)::l)++r)=(p++List.replicate n 0++enc ak e)++(lay ak l++r):=by simp[lay]
  have ih:=abg ak l (p++List.replicate n 0++enc ak e) r (fun x hx=>hf x (by simp[hx]));have hid:1<=e.id:=by
   have:=hf (n,e) (by simp);revert this;cases ak<;>simp[jw]<;>omega
  rw[mK,List.map_cons,List.map_cons,e1];have hlen:p.length+n+(enc ak e).length=(p++List.replicate n (0:UInt8)++enc ak e).length:=by simp;omega
  rw[hlen,ih];congr 1
  unfold gN;have e2:(p++List.replicate n 0++enc ak e)++(lay ak l++r)=(p++List.replicate n 0++(enc ak e).take (ahead ak))++(e.data++(lay ak l++r)):=by
   have:enc ak e=(enc ak e).take (ahead ak)++e.data:=by unfold enc ahead;cases ak<;>simp
   conv=>lhs;rw[this]
   simp
  have hl:(p++List.replicate n 0++(enc ak e).take (ahead ak)).length=p.length+n+ahead ak:=by
   simp[Hq];omega
  rw[e2,<-hl,List.drop_left,List.take_left];cases e;simp only[El.mk.injEq,and_true];simp only at hid;omega
theorem GL{l:List El}(h:iM l):(∀e∈l,jw (tQ l) e)/\(l.map fun e=>e.id.toNat).Nodup:=by
 have hin:∀e∈l,1<=e.id/\e.id<=255/\e.data.length<=255:=by
  intro e he;obtain ⟨j,hj,rfl⟩:=List.getElem_of_mem he;have:=h j hj;unfold vU at this;rw[List.getD_eq_getElem?_getD,List.getElem?_eq_getElem hj] at this;exact ⟨this.1,this.2.1,this.2.2.1⟩
 refine ⟨fun e he=>?_,?_⟩
 .by_cases hn:tQ l=true
  .rw[hn];exact (of_decide_eq_true hn) e he
  .rw[Bool.not_eq_true] at hn;rw[hn];simpa [jw] using hin e he
 .rw[List.nodup_iff_pairwise_ne,List.pairwise_iff_getElem];intro i j hi hj hij he;simp only[List.getElem_map,List.length_map] at he hi hj;have:=(h j hj).2.2.2;apply this;rw[List.getD_eq_getElem?_getD,List.getElem?_eq_getElem hj];simp only[Option.getD_some,aZ,List.mem_map];refine ⟨l[i],?_,?_⟩
  .rw[List.mem_take_iff_getElem];exact ⟨i,by omega,rfl⟩
  .have h1:=hin l[i] (List.getElem_mem hi);have h2:=hin l[j] (List.getElem_mem hj);omega
theorem aiD{l:List El}(ak:Bool)(h1:∀e∈l,jw ak e)(h2:(l.map fun e=>e.id.toNat).Nodup):iM l:=by
 intro j hj;have hin:∀e∈l,1<=e.id/\e.id<=255/\e.data.length<=255:=by
  intro e he;have:=h1 e he;revert this;cases ak<;>simp[jw]<;>omega
 have h3:=hin l[j] (List.getElem_mem hj);unfold vU;rw[List.getD_eq_getElem?_getD,List.getElem?_eq_getElem hj];refine ⟨h3.1,h3.2.1,h3.2.2,?_⟩;intro hm;simp only[Option.getD_some,aZ,List.mem_map] at hm;obtain ⟨e,he,heq⟩:=hm;rw[List.mem_take_iff_getElem] at he;obtain ⟨i,hi,rfl⟩:=he;rw[List.nodup_iff_pairwise_ne,List.pairwise_iff_getElem] at h2;refine h2 i j (by simp;omega) (by simpa using hj) (by omega) ?_;simp[heq]
def EM(ak:Bool):Nat:=if ak then 48862 else 4096
theorem aj4{l:List El}(h:iM l):rT l=EM (tQ l):=by unfold rT EM;rw[if_pos h]
def zZ(ak:Bool)(q:Nat):Prop:=if ak then q=48862 else q/16=256
def Ov(ak:Bool)(b:List UInt8)(s:Sp):Prop:=jw ak (gN b s)
theorem aop(ak:Bool)(b:List UInt8):∀(n p:Nat) (out:List Sp),b.length-p<=n->(∀s∈out,Ov ak b s/\s.pos+s.size<=b.length)->(ku out).Nodup->
  (∀s∈(wk ak b p out).1,Ov ak b s/\s.pos+s.size<=b.length)/\(ku (wk ak b p out).1).Nodup/\((wk ak b p out).2=0\/(wk ak b p out).1=[]/\((wk ak b p out).2=4\/(wk ak b p out).2=6)):=by
 intro n;induction n with
 |zero=>
  intro p out hn h1 h2;rw[vE (by omega)];exact ⟨h1,h2,.inl rfl⟩
 |succ n ih=>
  intro p out hn h1 h2;by_cases hp:p<b.length
  .by_cases h0:at_ b p=0
   .rw[BK hp h0];exact ih _ _ (by omega) h1 h2
   .by_cases hs:ak=true/\(at_ b p/16=15\/at_ b p/16=0)
    .rw[En hp h0 hs];exact ⟨h1,h2,.inl rfl⟩
    .by_cases hw:ak=false/\b.length<=p+1
     .rw[Ii hp h0 hs hw];exact ⟨by simp,by simp[ku],.inr ⟨rfl,.inl rfl⟩⟩
     .by_cases hl:b.length<(bI ak b p).pos+(bI ak b p).size
      .rw[Eo hp h0 hs hw hl];exact ⟨by simp,by simp[ku],.inr ⟨rfl,.inl rfl⟩⟩
      .by_cases ht:(bI ak b p).id∈ku out
       .rw[D6 hp h0 hs hw hl ht];exact ⟨by simp,by simp[ku],.inr ⟨rfl,.inr rfl⟩⟩
       .rw[wk_step hp h0 hs hw hl ht];have FY:=D9 ak b p;refine ih _ _ (by omega) ?_ ?_
        .intro s hs2;rcases List.mem_append.1 hs2 with hs2|hs2
         .exact h1 s hs2
         .obtain rfl:s=bI ak b p:=by simpa using hs2
          refine ⟨?_,by omega⟩;have hx:=gq b p;have hy:=gq b (p+1);unfold Ov jw gN;cases ak with
          |true=>
           simp only[bI,if_true,List.length_take,List.length_drop] at hl |-;simp only[true_and,not_or] at hs;omega
          |false=>
           simp only[bI,Bool.false_eq_true,if_false,List.length_take,List.length_drop] at hl |-;omega
        .simp only[ku,List.map_append,List.map_cons,List.map_nil];rw[List.nodup_append];refine ⟨h2,by simp,?_⟩;intro a ha c hc;simp only[List.mem_singleton] at hc;subst hc;intro e;subst e;exact ht ha
  .rw[vE hp];exact ⟨h1,h2,.inl rfl⟩
theorem Xc(q:Nat)(b:List UInt8):(∃ak,zZ ak q/\spots q b=wk ak b 0 [])\/spots q b=([],6):=by
 unfold spots;split
 .rename_i h;exact .inl ⟨true,by simp[zZ,h],rfl⟩
 .split
  .rename_i h;exact .inl ⟨false,by simp[zZ,h],rfl⟩
  .exact .inr rfl
theorem u6(q:Nat)(b:List UInt8):(∀s∈(spots q b).1,s.pos+s.size<=b.length)/\((spots q b).2=0\/(spots q b).1=[]/\((spots q b).2=4\/(spots q b).2=6))/\iM (oL q b):=by
 rcases Xc q b with ⟨ak,_,h⟩|h
 .have:=aop ak b b.length 0 [] (by omega) (by simp) (by simp[ku]);unfold oL;rw[h];refine ⟨fun s hs=>(this.1 s hs).2,this.2.2,?_⟩;refine aiD ak ?_ ?_
  .intro e he;obtain ⟨s,hs,rfl⟩:=List.mem_map.1 he;exact (this.1 s hs).1
  .have h2:=this.2.1;have e:(List.map (fun e=>e.id.toNat) (List.map (gN b) (wk ak b 0 []).1))=ku (wk ak b 0 []).1:=by
    simp only[List.map_map,ku];apply List.map_congr_left;intro s _;simp[gN]
   rw[e];exact h2
 .unfold oL;rw[h];exact ⟨by simp,.inr ⟨rfl,.inr rfl⟩,by intro j hj;simp at hj⟩
end Go.Plain
namespace Go.Plain
def BS(ak:Bool)(r:List UInt8):Prop:=∀(q:List UInt8) (out:List Sp),wk ak (q++r) q.length out=(out,0)
theorem ZU(ak:Bool):BS ak []:=fun q out=>vE (by simp)
theorem al8{ak:Bool}{r:List UInt8}(h:BS ak r):BS ak (0::r):=fun q out=>by
 have:=ZP ak r out 1 q;simp only[List.replicate_one,List.singleton_append] at this;rw[this];have h2:=h (q++ [0]) out;simpa using h2
theorem anf{x:UInt8}(r:List UInt8)(h0:x.toNat≠0)(h:x.toNat/16=15\/x.toNat/16=0):BS true (x::r):=fun q out=>by
 have a0:at_ (q++x::r) q.length=x.toNat:=by rw[XT];rfl
 exact En (by simp) (by rw[a0];exact h0) ⟨rfl,by rw[a0];exact h⟩
theorem Oj(b:List UInt8)(p i:Nat):at_ (b.drop p) i=at_ b (p+i):=by
 simp only[at_,List.getD_eq_getElem?_getD,List.getElem?_drop]
theorem za{b:List UInt8}{p:Nat}(h:p<b.length):b.drop p=UInt8.ofNat (at_ b p)::b.drop (p+1):=by
 rw[List.drop_eq_getElem_cons h];simp[at_,List.getD,h]
theorem an6{ak:Bool}{b:List UInt8}{p:Nat}(h:p<b.length)(h0:¬at_ b p=0)(h1:¬(ak=true/\(at_ b p/16=15\/at_ b p/16=0)))(h2:¬(ak=false/\b.length<=p+1))
  (h3:¬b.length<(bI ak b p).pos+(bI ak b p).size):
  jw ak (gN b (bI ak b p))/\b.drop p=enc ak (gN b (bI ak b p))++b.drop ((bI ak b p).pos+(bI ak b p).size)/\bI ak b p=⟨(gN b (bI ak b p)).id.toNat,p+ahead ak,(gN b (bI ak b p)).data.length⟩:=by
 have hx:=gq b p;have hy:=gq b (p+1);have hd:(b.drop (bI ak b p).pos).take (bI ak b p).size++b.drop ((bI ak b p).pos+(bI ak b p).size)=b.drop (bI ak b p).pos:=by rw[<-List.drop_drop,List.take_append_drop]
 have hl:((b.drop (bI ak b p).pos).take (bI ak b p).size).length=(bI ak b p).size:=by simp;omega
 cases ak with
 |true=>
  simp only[true_and,not_or] at h1;have e1:(bI true b p).id=at_ b p/16:=rfl;have e2:(bI true b p).pos=p+1:=rfl;have e3:(bI true b p).size=at_ b p%16+1:=rfl;refine ⟨?_,?_,?_⟩
  .unfold jw gN;simp only[if_true,hl];omega
  .unfold enc gN;simp only[if_true,hl];rw[List.cons_append,hd,e2,za h];congr 2
   rw[e1,e3];omega
  .unfold gN;simp only[hl,Int.toNat_natCast];rfl
 |false=>
  have h2:p+1<b.length:=by simpa using h2
  have e1:(bI false b p).id=at_ b p:=rfl;have e2:(bI false b p).pos=p+2:=rfl;have e3:(bI false b p).size=at_ b (p+1):=rfl;refine ⟨?_,?_,?_⟩
  .unfold jw gN;simp only[Bool.false_eq_true,if_false,hl];omega
  .unfold enc gN;simp only[Bool.false_eq_true,if_false,hl];rw[List.cons_append,List.cons_append,hd,e2,za h,za h2];congr 2
  .unfold gN;simp only[hl,Int.toNat_natCast];rfl
theorem al1(ak:Bool)(b:List UInt8):∀(n p:Nat) (out S:List Sp),b.length-p<=n->p<=b.length->wk ak b p out=(S,0)->
  ∃l r,b.drop p=lay ak l++r/\S=out++mK ak p l/\(∀x∈l,jw ak x.2)/\BS ak r:=by
 intro n;induction n with
 |zero=>
  intro p out S hn hp h;rw[vE (by omega)] at h;cases h;refine ⟨[],[],?_,by simp[mK],by simp,ZU ak⟩;rw[List.drop_of_length_le (by omega)];rfl
 |succ n ih=>
  intro p out S hn hp h;by_cases hlt:p<b.length
  .by_cases h0:at_ b p=0
   .rw[BK hlt h0] at h;obtain ⟨l,r,e1,e2,e3,e4⟩:=ih (p+1) out S (by omega) (by omega) h;have hd:=za hlt;rw[h0,e1] at hd;cases l with
    |nil=>exact ⟨[],0::r,by simpa [lay] using hd,by simpa [mK] using e2,by simp,al8 e4⟩
    |cons x l=>
     obtain ⟨m,e⟩:=x;refine ⟨(m+1,e)::l,r,?_,?_,?_,e4⟩
     .rw[hd];simp[lay,List.replicate_succ]
     .rw[e2];simp only[mK];rw[show p+1+m=p+(m+1) by omega]
     .intro x hx;rcases List.mem_cons.1 hx with rfl|hx
      .exact e3 (m,e) (by simp)
      .exact e3 x (by simp[hx])
   .by_cases hs:ak=true/\(at_ b p/16=15\/at_ b p/16=0)
    .rw[En hlt h0 hs] at h;cases h;obtain ⟨rfl,hs⟩:=hs;refine ⟨[],b.drop p,by simp[lay],by simp[mK],by simp,?_⟩;rw[za hlt];have hx:=gq b p;have e:(UInt8.ofNat (at_ b p)).toNat=at_ b p:=by simp;omega
     exact anf _ (by rw[e];exact h0) (by rw[e];exact hs)
    .by_cases hw:ak=false/\b.length<=p+1
     .rw[Ii hlt h0 hs hw] at h;cases h
     .by_cases hl:b.length<(bI ak b p).pos+(bI ak b p).size
      .rw[Eo hlt h0 hs hw hl] at h;cases h
      .by_cases ht:(bI ak b p).id∈ku out
       .rw[D6 hlt h0 hs hw hl ht] at h;cases h
       .rw[wk_step hlt h0 hs hw hl ht] at h;have FY:=D9 ak b p;obtain ⟨l,r,e1,e2,e3,e4⟩:=ih _ _ S (by omega) (by omega) h;obtain ⟨g1,g2,g3⟩:=an6 hlt h0 hs hw hl;rw[e1] at g2;generalize hsp:bI ak b p=sp at*;have hpos:sp.pos+sp.size=p+0+(enc ak (gN b sp)).length:=by
         rw[Hq];have:=congrArg Sp.pos g3;have:=congrArg Sp.size g3;simp only at*;omega
        refine ⟨(0,gN b sp)::l,r,?_,?_,?_,e4⟩
        .rw[g2];simp[lay]
        .rw[e2,hpos];simp only[mK,Nat.add_zero,List.append_assoc,List.singleton_append];congr 2
        .intro x hx;rcases List.mem_cons.1 hx with rfl|hx
         .exact g1
         .exact e3 x hx
  .have:p=b.length:=by omega
   rw[vE hlt] at h;cases h;refine ⟨[],[],?_,by simp[mK],by simp,ZU ak⟩;rw[List.drop_of_length_le (by omega)];rfl
theorem VO{q:Nat}{b:List UInt8}(h:(spots q b).2=0):∃ak l r,zZ ak q/\b=lay ak l++r/\(spots q b).1=mK ak 0 l/\(∀x∈l,jw ak x.2)/\BS ak r:=by
 rcases Xc q b with ⟨ak,hq,hs⟩|hs
 .have hw:wk ak b 0 []=((wk ak b 0 []).1,0):=by rw[<-hs];rw[<-h]
  obtain ⟨l,r,e1,e2,e3,e4⟩:=al1 ak b b.length 0 [] _ (by omega) (by omega) hw;exact ⟨ak,l,r,hq,by simpa using e1,by rw[hs];simpa using e2,e3,e4⟩
 .rw[hs] at h;cases h
theorem alP{q:Nat}{b:List UInt8}{ak:Bool}{l:List (Nat×El)}{r:List UInt8}(hb:b=lay ak l++r)(hs:(spots q b).1=mK ak 0 l)(hf:∀x∈l,jw ak x.2):
  oL q b=l.map (·.2)/\(l.map (fun x=>x.2.id.toNat)).Nodup:=by
 have h1:oL q b=l.map (·.2):=by
  unfold oL;rw[hs,hb];simpa using abg ak l [] r hf
 refine ⟨h1,?_⟩;have h2:=(u6 q b).2.2;rw[h1] at h2;have h3:=(GL h2).2;rw[List.map_map] at h3;exact h3
end Go.Plain
namespace Go.Plain
def nC(l:List Int)(j:Nat):Prop:=1<=l.getD j 0/\l.getD j 0<=255/\l.getD j 0∉l.take j
instance(l:List Int)(j:Nat):Decidable (nC l j):=by unfold nC;infer_instance
def iL(l:List Int):Prop:=∀j,j<l.length->nC l j
instance(l:List Int):Decidable (iL l):=by unfold iL;infer_instance
structure Mp where
 fr:Int
 to:Int
 deriving DecidableEq
def Mp.zero:Mp:=⟨0,0⟩
structure Pl where
 sm:Bool
 m:Bool
 st:Bool
 ty:Int
 sq:Bool
 seq:Int
 bL:Bool
 time:Int
 ss:Bool
 aN:Int
 maps:List Mp
 over:List El
 drops:List Int
 adds:List El
 np:Bool
 deriving DecidableEq
def Pl.zero:Pl:=⟨false,false,false,0,false,0,false,0,false,0,[],[],[],[],false⟩
def IW(p:Pl):Prop:=(p.sm=true\/p.m=false)/\(p.st=true\/p.ty=0)/\(p.sq=true\/p.seq=0)/\(p.bL=true\/p.time=0)/\(p.ss=true\/p.aN=0)/\0<=p.ty/\p.ty<=127
instance(p:Pl):Decidable (IW p):=by unfold IW;infer_instance
def fT(p:Pl):Prop:=IW p/\iL (p.maps.map (·.fr))/\iL (p.maps.map (·.to))/\iL p.drops/\iM p.over/\iM p.adds/\(∀d∈p.drops,d∉p.maps.map (·.fr))/\∀d∈p.drops,d∉aZ p.over
instance(p:Pl):Decidable (fT p):=by unfold fT;infer_instance
def iE(p:Pl):Prop:=p.maps.length<=1000000/\p.over.length<=1000000/\p.drops.length<=1000000/\p.adds.length<=1000000
def gH(p:Pl):Prop:=0<=p.seq/\p.seq<65536/\0<=p.time/\p.time<4294967296/\0<=p.aN/\p.aN<4294967296
instance(p:Pl):Decidable (gH p):=by unfold gH;infer_instance
theorem vH{l:List Int}(h:iL l):∀x∈l,1<=x/\x<=255:=by
 intro x hx;obtain ⟨j,hj,rfl⟩:=List.getElem_of_mem hx;have:=h j hj;unfold nC at this;simp[List.getD,hj] at this;omega
theorem tL(l:List Int):iL l↔(∀x∈l,1<=x/\x<=255)/\l.Nodup:=by
 constructor
 .intro h;refine ⟨vH h,?_⟩;rw[List.Nodup,List.pairwise_iff_getElem];intro i j hi hj hij he;have:=(h j hj).2.2;apply this;rw[List.mem_take_iff_getElem];refine ⟨i,by omega,?_⟩;simp[List.getD,hj,he]
 .rintro ⟨h1,h2⟩ j hj;have hm:l.getD j 0∈l:=by simp[List.getD,hj]
  refine ⟨(h1 _ hm).1,(h1 _ hm).2,fun h3=>?_⟩;rw[List.mem_take_iff_getElem] at h3;obtain ⟨i,hi,he⟩:=h3;rw[List.Nodup,List.pairwise_iff_getElem] at h2;have hi2:i<l.length:=by omega
  apply h2 i j hi2 hj (by omega);rw[he];simp[List.getD,hj]
theorem Bo{l:List El}(h:iM l):iL (aZ l):=by
 intro j hj;have hj2:j<l.length:=by simpa [aZ] using hj
 obtain ⟨h1,h2,h3,h4⟩:=h j hj2;have e:(aZ l).getD j 0=(l.getD j El.zero).id:=by simp[aZ,List.getD,hj2]
 have t:(aZ l).take j=aZ (l.take j):=by simp[aZ]
 unfold nC;rw[e,t];exact ⟨h1,h2,h4⟩
def newId(p:Pl)(x:Int):Int:=match p.maps.find? (·.fr==x) with|some m=>m.to|none=>x
def j5(p:Pl)(x:Int)(d:List UInt8):List UInt8:=match p.over.find? (·.id==x) with|some e=>e.data|none=>d
def FH(p:Pl)(e:El):El:=⟨newId p e.id,j5 p e.id e.data⟩
def qJ(p:Pl)(l:List El):List El:=(l.filter fun e=>decide (e.id∉p.drops)).map (FH p)++p.adds
def EN(p:Pl)(l:List El):Prop:=(∀x∈p.maps.map (·.fr),x∈aZ l)/\(∀x∈aZ p.over,x∈aZ l)/\∀x∈p.drops,x∈aZ l
instance(p:Pl)(l:List El):Decidable (EN p l):=by unfold EN;infer_instance
def ug(p:Pl)(l:List El):Prop:=∀e∈l,e.id∉p.drops->(j5 p e.id e.data).length=e.data.length
instance(p:Pl)(l:List El):Decidable (ug p l):=by unfold ug;infer_instance
def mG(p:Pl)(l:List El):Prop:=EN p l/\ug p l/\iL (aZ (qJ p l))
instance(p:Pl)(l:List El):Decidable (mG p l):=by unfold mG;infer_instance
def yG(p:Pl)(e:El):Nat:=if e.id∈p.drops then 1 else (if e.id∈aZ p.over then 1 else 0)+(if e.id∈p.maps.map (·.fr) then 1 else 0)
def cnt(p:Pl)(l:List El):Nat:=(l.map (yG p)).sum
theorem MP{A D:List Int}(hA:A.Nodup)(hD:D.Nodup):A.countP (fun x=>decide (x∈D))=(D.filter fun x=>decide (x∈A)).length:=by
 rw[List.countP_eq_length_filter];apply List.Perm.length_eq;rw[List.perm_ext_iff_of_nodup (hA.sublist List.filter_sublist) (hD.sublist List.filter_sublist)];intro a;simp only[List.mem_filter,decide_eq_true_eq];exact And.comm
theorem filter_all{D:List Int}(q:Int->Bool):(D.filter q).length=D.length↔∀x∈D,q x=true:=by
 rw[List.length_filter_eq_length_iff]
theorem adf(p:Pl)(h1:∀d∈p.drops,d∉p.maps.map (·.fr))(h2:∀d∈p.drops,d∉aZ p.over):∀l:List El,
  cnt p l=(aZ l).countP (fun x=>decide (x∈p.drops))+((aZ l).countP (fun x=>decide (x∈aZ p.over))+(aZ l).countP (fun x=>decide (x∈p.maps.map (·.fr))))
 | []=>rfl
 |e::l=>by
  have ih:=adf p h1 h2 l;have e1:cnt p (e::l)=yG p e+cnt p l:=by simp[cnt]
  have e2:aZ (e::l)=e.id::aZ l:=rfl;rw[e1,e2,List.countP_cons,List.countP_cons,List.countP_cons,ih];unfold yG;by_cases hd:e.id∈p.drops
  .have a:=h1 _ hd;have b:=h2 _ hd;simp only[hd,a,b,if_true,decide_true,decide_false];simp;omega
  .simp only[hd,if_false,decide_false,decide_eq_true_eq];simp;omega
theorem ZH{p:Pl}(hp:fT p){l:List El}(hl:iM l):cnt p l=p.drops.length+p.maps.length+p.over.length↔EN p l:=by
 obtain ⟨_,r1,_,r2,r3,_,r4,r5⟩:=hp;have n0:=((tL _).1 (Bo hl)).2;have n1:=((tL _).1 r1).2;have n2:=((tL _).1 r2).2;have n3:=((tL _).1 (Bo r3)).2;rw[adf p r4 r5,MP n0 n2,MP n0 n3,MP n0 n1];have l1:=List.length_filter_le (fun x=>decide (x∈aZ l)) p.drops;have l2:=List.length_filter_le (fun x=>decide (x∈aZ l)) (aZ p.over);have l3:=List.length_filter_le (fun x=>decide (x∈aZ l)) (p.maps.map (·.fr));have m1:(p.maps.map (·.fr)).length=p.maps.length:=by simp
 have m2:(aZ p.over).length=p.over.length:=by simp[aZ]
 have a1:=filter_all (D:=p.drops) (fun x=>decide (x∈aZ l));have a2:=filter_all (D:=aZ p.over) (fun x=>decide (x∈aZ l));have a3:=filter_all (D:=p.maps.map (·.fr)) (fun x=>decide (x∈aZ l));unfold EN;simp only[decide_eq_true_eq] at a1 a2 a3;rw[<-a1,<-a2,<-a3];omega
end Go.Plain
namespace Go.Vc
open Go.ChangeShapes Go.WideShapes Go.ChangeAt Go.RowKit
def Ty:Sh->C->Prop
 | .int k,c=>∃n,c= .int n/\(Lit.int k n).wf=true
 | .bool,c=>∃b,c= .bool b
 | .str,c=>∃s,c= .str s/\s.length<=maxLen
 | .sl e,c=>∃l,c= .ls l/\l.length<=maxLen/\∀x∈l,Ty e x
 | .unit,c=>c= .ls []
 | .pair a b,c=>∃x l,c= .ls (x::l)/\Ty a x/\Ty b (.ls l)
 |_,_=>False
theorem ap6{k:IntKind}{n:Int}:(Lit.int k n).wf=true↔k.min<=n/\n<=k.max:=by
 simp[Lit.wf]
def JL:List Sh->List C->Prop
 | [],cs=>cs=[]
 |s::l,cs=>∃c r,cs=c::r/\Ty s c/\JL l r
theorem apD{k:IntKind}{c:C}(h:Ty (.int k) c):∃n:Int,c= .int n/\k.min<=n/\n<=k.max:=by
 obtain ⟨n,h1,h2⟩:=h;exact ⟨n,h1,ap6.1 h2⟩
theorem Jc{k:IntKind}(hs:k.signed=false){c:C}(h:Ty (.int k) c):∃n:Nat,c= .int n/\n<2^k.bits:=by
 obtain ⟨n,rfl,h1,h2⟩:=apD h;refine ⟨n.toNat,?_,?_⟩
 .cases k<;>simp[IntKind.signed] at hs<;>simp[IntKind.min,IntKind.signed] at h1<;>congr 1<;>omega
 .cases k<;>simp[IntKind.signed] at hs<;>simp[IntKind.min,IntKind.max,IntKind.signed,IntKind.bits] at h1 h2 |- <;>omega
def EY(P:Program)(R:TypeId->Sh->Bool):List Field->Sh->Nat->Bool
 | [],.unit,_=>true
 |f::fs,.pair a b,off=>f.offset==off&&(P.cellsOf f.type==a.size&&(R f.type a&&(b.isAgg&&EY P R fs b (off+a.size))))
 |_,_,_=>false
def sF(P:Program):Nat->TypeId->Sh->Bool
 |0,_,_=>false
 |n+1,t,s=>match P.underlying t,s with
  |some .bool,.bool=>true
  |some (.int k),.int k'=>decide (k=k')
  |some .string,.str=>true
  |some (.slice e),.sl s=>P.cellsOf e==s.size&&(s.size !=0&&sF P n e s)
  |some (.struct fs),s=>s.isAgg&&(P.cellsOf t==s.size&&EY P (sF P n) fs.toList s 0)
  |_,_=>false
theorem Ty.agg{s:Sh}{c:C}(hs:s.isAgg=true)(h:Ty s c):∃l,c= .ls l:=by
 cases s with
 |unit=>exact ⟨[],h⟩
 |pair a b=>obtain ⟨x,l,h,_⟩:=h;exact ⟨_,h⟩
 |_=>cases hs
theorem pick{Q:Nat->C->Prop}:∀n:Nat,(∀i,i<n->∃c,Q i c)->∃l:List C,l.length=n/\∀i c,l[i]?=some c->Q i c
 |0,_=>⟨[],rfl,fun i c h=>by simp at h⟩
 |n+1,h=>by
  obtain ⟨l,h1,h2⟩:=pick n fun i hi=>h i (by omega);obtain ⟨c,hc⟩:=h n (by omega);refine ⟨l++ [c],by simp[h1],fun i c' hi=>?_⟩;by_cases hl:i<n
  .rw[rD (by omega)] at hi;exact h2 i c' hi
  .have:i=n:=by
    have:=(dF.1 hi).1;simp at this;omega
   subst this;rw[yJ (by omega),h1] at hi;simp at hi;exact hi▸hc
section
variable{H:Type}{enc:TypeId×Value->H}{P:Program}{w:World}{base:Nat}{sp:Nat->Bool}{held:Bool}
theorem amN{n m:Nat}(ih:∀t s cs fuel x,sF P n t s=true->DataW.trod enc P w base sp held fuel t cs=some x->∃c,Rd w (fun _=>True) s cs c/\Ty s c)
  {cs:List Value}:∀(fs:List Field) (s:Sh) (off:Nat) (xs:List (DataW H×List MemPlace)),xs.length=fs.length->
   (∀(i:Nat) (f:Field),fs[i]?=some f->DataW.trod enc P w base sp held m f.type ((cs.drop f.offset).take (P.cellsOf f.type))=xs[i]?)->
   EY P (sF P n) fs s off=true->cs.length=off+s.size->∃c,Rd w (fun _=>True) s (cs.drop off) c/\Ty s c:=by
 intro fs;induction fs with
 |nil=>
  intro s off xs _ _ hg hl;cases s<;>simp[EY] at hg;exact ⟨.ls [],by simp only[Rd];apply AO;simp[Sh.size] at hl;omega,rfl⟩
 |cons f fs ihf=>
  intro s off xs hxl hx hg hl;cases s<;>simp[EY] at hg;rename_i a b;obtain ⟨h1,h2,h3,h4,h5⟩:=hg;cases xs with
  |nil=>simp at hxl
  |cons x xs=>
   have h0:=hx 0 f rfl;simp only[List.getElem?_cons_zero] at h0;rw[h1,h2] at h0;obtain ⟨ca,r1,r2⟩:=ih _ _ _ _ _ h3 h0;obtain ⟨cb,r3,r4⟩:=ihf b (off+a.size) xs (by simpa using hxl) (fun i g hg=>by simpa using hx (i+1) g (by simpa using hg)) h5 (by simp[Sh.size] at hl;omega);obtain ⟨l,rfl⟩:=r4.agg h4;refine ⟨.ls (ca::l),⟨h4,(cs.drop off).take a.size,cs.drop (off+a.size),?_,r1,r3⟩,ca,l,rfl,r2,r4⟩;rw[<-rC,zu]
theorem aou:∀(n:Nat) (t:TypeId) (s:Sh) (cs:List Value) (fuel:Nat) (x:DataW H×List MemPlace),
  sF P n t s=true->DataW.trod enc P w base sp held fuel t cs=some x->∃c,Rd w (fun _=>True) s cs c/\Ty s c:=by
 intro n;induction n with
 |zero=>intro t s cs fuel x h;simp[sF] at h
 |succ n ih=>
  intro t s cs fuel x hg ht;unfold sF at hg;split at hg
  .rename_i hu;obtain ⟨b,rfl,_⟩:=DataW.trod_bool hu ht;exact ⟨.bool b,rfl,b,rfl⟩
  .rename_i k k' hu;obtain ⟨m,rfl,_,hw⟩:=DataW.trod_int hu ht;have:=of_decide_eq_true hg;subst this;exact ⟨.int m,rfl,m,rfl,hw⟩
  .rename_i hu;obtain ⟨str,rfl,_,hl⟩:=DataW.trod_string hu ht;exact ⟨.str str.data.toList,by simp[Rd],_,rfl,by simpa using hl⟩
  .rename_i e s hu;simp at hg;obtain ⟨h1,h2,h3⟩:=hg;rcases DataW.trod_slice hu ht with ⟨rfl,_⟩|⟨a,len,cap,elems,rest,m,_,rfl,_,_,hl,hm,hlen,hel,_,_⟩
   .exact ⟨.ls [],⟨none,0,rfl,by simp,by simp[maxLen],by simp⟩,[],rfl,by simp,by simp⟩
   .by_cases hz:len=0
    .subst hz;exact ⟨.ls [],⟨some a,cap,rfl,by simp,hm,by simp⟩,[],rfl,by simp,by simp⟩
    obtain ⟨b,off,spot⟩:=a;have abU:∀i,i<len->∃us c,w.cells? base (Addr.add ⟨b,off,spot⟩ (i*s.size)) s.size=some us/\Rd w (fun _=>True) s us c/\Ty s c:=by
     intro i hi;have h4:=hel i hi;rw[iK (by omega),qx] at h4;obtain ⟨us,h5,h6⟩:=h4;obtain ⟨c,r1,r2⟩:=ih _ _ _ _ _ h3 h6;exact ⟨us,c,by rw[<-h1];exact h5,r1,r2⟩
    have hsp:spot=none/\b<w.heap.size:=by
     obtain ⟨us,c,h5,_⟩:=abU 0 (by omega);obtain ⟨_,h7,h8⟩:=World.cells?_some h5;have h9:=h8 0 (by omega);rw[iK (by omega)] at h9;simp[Addr.add] at h9;refine ⟨by simpa using World.cell?_spot h9,?_⟩;have hnn:w.heap[b]?≠none:=by
      intro hn;simp[World.cell?,hn] at h9
     exact Nat.lt_of_not_le fun hle=>hnn (by simpa using hle)
    obtain ⟨rfl,hlt⟩:=hsp;have each:∀i,i<len->∃c,((∃us,us.length=s.size/\kZ w b (off+i*s.size) us/\Rd w (fun _=>True) s us c)/\Ty s c):=by
     intro i hi;obtain ⟨us,c,h5,r1,r2⟩:=abU i hi;obtain ⟨_,h7,h8⟩:=World.cells?_some h5;refine ⟨c,⟨us,h7,fun j u hj=>?_,r1⟩,r2⟩;have hj':j<s.size:=by
      have:=(dF.1 hj).1;omega
     have h9:=h8 j hj';rw[hj] at h9;have ea:∀(o k:Nat),Addr.add ⟨b,o,none⟩ k=⟨b,o+k,none⟩:=by
      intro o k;simp only[Addr.add];split<;>simp_all
     rw[ea,ea] at h9;exact h9
    obtain ⟨l,l1,l2⟩:=pick len each;refine ⟨.ls l,⟨some ⟨b,off,none⟩,cap,by simp only[C.kU,l1],by simp only[C.kU,l1];exact hl,hm,fun _=>⟨b,off,rfl,trivial,hlt,fun i c hi=>(l2 i c hi).1⟩⟩,l,rfl,by omega,fun c hc=>?_⟩;obtain ⟨i,hi⟩:=List.getElem?_of_mem hc;exact (l2 i c hi).2
  .rename_i fs hu;simp at hg;obtain ⟨h0,h1,h2⟩:=hg;obtain ⟨xs,m,_,_,h3,h4,h5⟩:=DataW.trod_struct hu ht;have:=amN ih fs.toList _ 0 xs (by simpa using h4) (fun i f hf=>h5 i f (by simpa using hf)) h2 (by omega);simpa using this
  .cases hg
theorem apT{r:Reach}{b0 n:Nat}{t:TypeId}{s:Sh}{v:Value}{d:DataW H}{ps:List MemPlace}(hg:sF P n t s=true)(hv:Value.okWide P w r b0 t v)
  (hd:DataW.Trod enc P w base sp held t v d ps):∃c,bq w (fun _=>True) s v c/\Ty s c:=by
 obtain ⟨fuel,hf⟩:=hd;obtain ⟨c,r1,r2⟩:=aou n t s _ _ _ hg hf;refine ⟨c,⟨_,r1,?_⟩,r2⟩;cases n with
 |zero=>simp[sF] at hg
 |succ n=>
  unfold sF at hg;split at hg
  .rename_i hu;obtain ⟨_,rfl⟩:=okWide_bool hu hv;rfl
  .rename_i hu;obtain ⟨_,rfl⟩:=okWide_int hu hv;rfl
  .rename_i hu;obtain ⟨_,rfl⟩:=okWide_string hu hv;rfl
  .rename_i hu;obtain ⟨_,_,_,rfl⟩:=okWide_slice hu hv;rfl
  .rename_i hu;obtain ⟨cs,rfl,_⟩:=okWide_struct hu hv;simp at hg;simp[Sh.mk,hg.1,Value.cells]
  .cases hg
def EX(P:Program)(n:Nat):List TypeId->List Sh->Bool
 | [],[]=>true
 |t::ts,s::l=>sF P n t s&&EX P n ts l
 |_,_=>false
theorem aa1{r:Reach}{b0 n:Nat}:∀ {ts:List TypeId} {bY:List Sh} {vs:List Value} {ds:List (DataW H)} {ps:List MemPlace},
  EX P n ts bY=true->(∀(j:Nat) t v,ts[j]?=some t->vs[j]?=some v->Value.okWide P w r b0 t v)->DataW.TrodAll enc P w base sp held ts vs ds ps->
  ∃cs,dH w (fun _=>True) (bY.zip cs) vs/\JL bY cs
 | [],[],vs,ds,ps,_,_,h=>by
  cases vs with
  |nil=>exact ⟨[],rfl,rfl⟩
  |cons _ _=>simp[DataW.TrodAll] at h
 |t::ts,s::l,vs,ds,ps,hg,hv,h=>by
  cases vs with
  |nil=>simp[DataW.TrodAll] at h
  |cons v vs=>
   cases ds with
   |nil=>simp[DataW.TrodAll] at h
   |cons d ds=>
    obtain ⟨p,q,h1,h2,_⟩:=h;simp[EX] at hg;obtain ⟨c,r1,r2⟩:=apT hg.1 (hv 0 t v rfl rfl) h1;obtain ⟨cs,r3,r4⟩:=aa1 hg.2 (fun j t' v' ht' hv'=>hv (j+1) t' v' (by simpa using ht') (by simpa using hv')) h2;exact ⟨c::cs,⟨v,vs,rfl,r1,r3⟩,c,cs,rfl,r2,r4⟩
 | [],_::_,_,_,_,h,_,_|_::_,[],_,_,_,h,_,_=>by simp[EX] at h
theorem ZN(hl:laidOutB P=true){W W':World}(hb:Below W.heap.size W W'):∀ {ts:List TypeId} {vs:List Value} {ds:List (DataW H)} {ps:List MemPlace},
  (ts.all fun t=>P.readableRec t&&decide (t<P.types.size))=true->DataW.TrodAll enc P W 0 (fun _=>true) true ts vs ds ps->
  DataW.TrodAll enc P W' 0 (fun b=>decide (b<W.heap.size)) true ts vs ds ps
 | [],[],[],_,_,h=>h
 |t::ts,v::vs,d::ds,ps,hr,⟨p,q,h1,h2,h3⟩=>by
  simp at hr;have lt:∀x∈p,x.block<W.heap.size:=by
   obtain ⟨m,hm⟩:=h1;exact DataW.trod_lt m _ _ _ hm
  exact ⟨p,q,Below.trod hl hr.1.1 hr.1.2 h1 hb lt,ZN hl hb (by simpa using hr.2) h2,h3⟩
 | [],[],_::_,_,_,h| [],_::_,_,_,_,h|_::_,[],_,_,_,h|_::_,_::_,[],_,_,h=>by simp[DataW.TrodAll] at h
end
theorem Xa{H:Type}{enc:TypeId×Value->H}{P:Program}{w:World}{base:Nat}{sp:Nat->Bool}{held:Bool}:∀ {ts:List TypeId} {vs:List Value} {ds:List (DataW H)} {ps:List MemPlace},
  DataW.TrodAll enc P w base sp held ts vs ds ps->ds.length=ts.length
 | [],[],[],_,_=>rfl
 |_::_,_::_,_::_,_,⟨_,_,_,h,_⟩=>by simp[Xa h]
 | [],[],_::_,_,h| [],_::_,_,_,h|_::_,[],_,_,h|_::_,_::_,[],_,h=>by simp[DataW.TrodAll] at h
end Go.Vc
namespace Go.Plain
def fP(F B:Nat)(l:List Nat):Nat->Nat
 |0=>F
 |n+1=>B*fP F B l n+l.getD n 0
def gY(l:List Nat):Nat:=((l.take 8191).takeWhile fun x=>x==l.getD 0 0).length
def nS(l:List Nat):Prop:=∀x∈l.take 14,x≠2
instance(l:List Nat):Decidable (nS l):=by unfold nS;exact inferInstance
def jK(l:List Nat):Nat:=
 if 14<=gY l\/gY l=l.length then 8192*l.getD 0 0+gY l else if nS l then fP 2 2 l 14 else fP 3 4 l 7
def fM(l:List Nat):Nat:=
 if 14<=gY l\/gY l=l.length then gY l else if nS l then min 14 l.length else min 7 l.length
theorem Ik{l:List Nat}(h:l≠[]):1<=gY l/\gY l<=l.length/\gY l<=8191:=by
 cases l with
 |nil=>exact absurd rfl h
 |cons x l=>
  unfold gY;rw[show (8191:Nat)=8190+1 from rfl,List.take_succ_cons,List.takeWhile_cons_of_pos (by simp),List.length_cons];have h1:=(List.takeWhile_prefix (fun y=>y==(x::l).getD 0 0) (l:=l.take 8190)).length_le;have h2:(l.take 8190).length<=8190:=by rw[List.length_take];omega
  have h3:(l.take 8190).length<=l.length:=by rw[List.length_take];omega
  simp only[List.length_cons];omega
theorem EA{l:List Nat}(h:l≠[]):1<=fM l/\fM l<=l.length:=by
 have h1:=Ik h;have h2:=List.length_pos_iff.2 h;unfold fM;split
 .omega
 .split<;>omega
def dQ(l:List Nat):List Nat:=if h:l=[] then [] else jK l::dQ (l.drop (fM l))
termination_by l.length
decreasing_by
 have:=EA h;simp only[List.length_drop];omega
theorem Ez:dQ []=[]:=by rw[dQ];rfl
theorem Ee{l:List Nat}(h:l≠[]):dQ l=jK l::dQ (l.drop (fM l)):=by rw[dQ,dif_neg h]
def kS(c:Nat):List Nat:=
 if c<32768 then List.replicate (c%8192) (c/8192)
 else if c<49152 then (List.range 14).map fun i=>c/2^(13-i)%2
 else (List.range 7).map fun i=>c/4^(6-i)%4
theorem Np(F B:Nat)(l:List Nat):∀n,F*B^n<=fP F B l n
 |0=>by simp[fP]
 |n+1=>by
  have h:=Nat.mul_le_mul_left B (Np F B l n);rw[fP,Nat.pow_succ,<-Nat.mul_assoc,Nat.mul_comm];omega
theorem Nq(F B:Nat)(l:List Nat)(n:Nat)(h:∀i,i<n->l.getD i 0<B):fP F B l n<(F+1)*B^n:=by
 induction n with
 |zero=>simp[fP]
 |succ n ih=>
  have h1:=ih fun i hi=>h i (by omega);have h2:=h n (by omega);have h3:B*(fP F B l n+1)<=B*((F+1)*B^n):=Nat.mul_le_mul_left B h1;rw[fP,Nat.pow_succ,<-Nat.mul_assoc,Nat.mul_comm _ B];rw[Nat.mul_add,Nat.mul_one] at h3;omega
theorem XZ(F B:Nat)(l:List Nat)(n:Nat)(h:∀i,i<n->l.getD i 0<B):∀i,i<n->fP F B l n/B^(n-1-i)%B=l.getD i 0:=by
 induction n with
 |zero=>intro i hi;omega
 |succ n ih=>
  intro i hi;have hB:0<B:=by have:=h 0 (by omega);omega
  by_cases hin:i=n
  .subst hin;have h2:=h i (by omega);rw[show i+1-1-i=0 by omega,Nat.pow_zero,Nat.div_one,fP,Nat.add_comm,Nat.add_mul_mod_self_left,Nat.mod_eq_of_lt h2]
  .have h1:=ih (fun i hi=>h i (by omega)) i (by omega);have h2:=h n (by omega);rw[show n+1-1-i=(n-1-i)+1 by omega,Nat.pow_succ,Nat.mul_comm,<-Nat.div_div_eq_div_mul,fP,Nat.add_comm,Nat.add_mul_div_left _ _ hB,Nat.div_eq_of_lt h2,Nat.zero_add];exact h1
theorem XL(l:List Nat)(n:Nat):(((List.range n).map fun i=>l.getD i 0).take l.length)=l.take n:=by
 apply List.ext_getElem?;intro i;simp only[List.getElem?_take,List.getElem?_map,List.getD];by_cases h1:i<l.length
 .by_cases h2:i<n
  .simp[h1,h2]
  .simp[h1,h2]
 .by_cases h2:i<n
  .simp[h1,h2]
  .simp[h1,h2]
def mg(l:List Nat):Prop:=∀x∈l,x<=2
theorem Ey{l:List Nat}(h:mg l)(i:Nat):l.getD i 0<=2:=by
 by_cases hi:i<l.length
 .rw[List.getD,List.getElem?_eq_getElem hi];exact h _ (List.getElem_mem hi)
 .simp[List.getD,Nat.not_lt.1 hi]
theorem Zg{l:List Nat}(h:mg l)(h1:nS l)(i:Nat)(hi:i<14):l.getD i 0<2:=by
 by_cases hl:i<l.length
 .have h2:l.getD i 0∈l.take 14:=by
   rw[List.getD,List.getElem?_eq_getElem hl];exact List.mem_take_iff_getElem.2 ⟨i,by omega,rfl⟩
  have h3:=h1 _ h2;have h4:=Ey h i;omega
 .simp[List.getD,Nat.not_lt.1 hl]
theorem acy{p:Nat->Bool}{b:Nat}:∀ {l:List Nat},b∈l.takeWhile p->p b=true
 | [],h=>by simp at h
 |x::l,h=>by
  by_cases hx:p x=true
  .rw[List.takeWhile_cons_of_pos hx] at h;rcases List.mem_cons.1 h with rfl|h
   .exact hx
   .exact acy h
  .rw[List.takeWhile_cons_of_neg hx] at h;cases h
theorem amg{l:List Nat}:l.take (gY l)=List.replicate (gY l) (l.getD 0 0):=by
 have hp:=List.takeWhile_prefix (fun y=>y==l.getD 0 0) (l:=l.take 8191);have hq:=List.prefix_iff_eq_take.1 hp;have h3:(l.take 8191).takeWhile (fun y=>y==l.getD 0 0)=l.take (gY l):=by
  have h4:gY l<=8191:=by
   have:=hp.length_le;rw[List.length_take] at this;unfold gY;omega
  rw[hq,List.take_take];congr 1
  unfold gY at h4 |-;omega
 rw[<-h3];apply List.eq_replicate_iff.2;refine ⟨rfl,fun b hb=>?_⟩;have:=acy hb;simpa using this
theorem abS{l:List Nat}(h:mg l)(hne:l≠[])(hr:14<=gY l\/gY l=l.length):jK l<32768/\jK l%8192=gY l/\jK l/8192=l.getD 0 0/\fM l=gY l:=by
 have h1:=Ik hne;have h2:=Ey h 0;rw[jK,if_pos hr,fM,if_pos hr];omega
theorem abT{l:List Nat}(h:mg l)(hr:¬(14<=gY l\/gY l=l.length))(ho:nS l):32768<=jK l/\jK l<49152/\jK l=fP 2 2 l 14/\fM l=min 14 l.length:=by
 have h1:=Np 2 2 l 14;have h2:=Nq 2 2 l 14 (Zg h ho);rw[jK,if_neg hr,if_pos ho,fM,if_neg hr,if_pos ho];omega
theorem abR{l:List Nat}(h:mg l)(hr:¬(14<=gY l\/gY l=l.length))(ho:¬nS l):49152<=jK l/\jK l<65536/\jK l=fP 3 4 l 7/\fM l=min 7 l.length:=by
 have h1:=Np 3 4 l 7;have h2:=Nq 3 4 l 7 (fun i _=>by have:=Ey h i;omega);rw[jK,if_neg hr,if_neg ho,fM,if_neg hr,if_neg ho];omega
theorem D7(l:List Nat)(n:Nat):l.take (min n l.length)=l.take n:=by
 by_cases h:n<=l.length
 .rw[Nat.min_eq_left h]
 .rw[Nat.min_eq_right (by omega),List.take_length,List.take_of_length_le (by omega)]
theorem aqm{l:List Nat}(h:mg l)(hne:l≠[]):(kS (jK l)).take l.length=l.take (fM l):=by
 by_cases hr:14<=gY l\/gY l=l.length
 .obtain ⟨c1,c2,c3,c4⟩:=abS h hne hr;have h1:=Ik hne;rw[kS,if_pos c1,c2,c3,c4,amg,List.take_of_length_le (by rw[List.length_replicate];omega)]
 .by_cases ho:nS l
  .obtain ⟨c1,c2,c3,c4⟩:=abT h hr ho;rw[kS,if_neg (by omega),if_pos c2,c4,D7,c3,<-XL l 14];congr 1
   apply List.map_congr_left;intro i hi;rw[List.mem_range] at hi;exact XZ 2 2 l 14 (Zg h ho) i hi
  .obtain ⟨c1,c2,c3,c4⟩:=abR h hr ho;rw[kS,if_neg (by omega),if_neg (by omega),c4,D7,c3,<-XL l 7];congr 1
   apply List.map_congr_left;intro i hi;rw[List.mem_range] at hi;exact XZ 3 4 l 7 (fun i _=>by have:=Ey h i;omega) i hi
def rd:List Nat->Nat->Except Int (List Nat×Nat)
 | [],n=>if n=0 then .ok ([],0) else .error 2
 |x::c,n=>if n=0 then .ok ([],0) else if 3∈(kS x).take n then .error 6 else
   match rd c (n-((kS x).take n).length) with
   | .ok (l,k)=> .ok ((kS x).take n++l,k+1)
   | .error e=> .error e
theorem vw(c:List Nat):rd c 0= .ok ([],0):=by cases c<;>rfl
theorem I4{l:List Nat}(h:mg l)(n:Nat):mg (l.drop n):=fun x hx=>h x (List.mem_of_mem_drop hx)
theorem apU(more:List Nat):∀(n:Nat) (l:List Nat),l.length=n->mg l->rd (dQ l++more) l.length= .ok (l,(dQ l).length):=by
 intro n;induction n using Nat.strongRecOn with
 |ind n ih=>
  intro l hl h;by_cases hne:l=[]
  .subst hne;rw[Ez];exact vw _
  .have hm:=EA hne;have ht:=aqm h hne;have hd:(l.drop (fM l)).length=l.length-fM l:=List.length_drop;have hi:=ih (l.length-fM l) (by omega) (l.drop (fM l)) hd (I4 h _);have h3:3∉l.take (fM l):=fun hx=>by have:=h 3 (List.mem_of_mem_take hx);omega
   have hlen:(l.take (fM l)).length=fM l:=by rw[List.length_take];omega
   rw[Ee hne,List.cons_append,rd,if_neg (by omega),ht,if_neg h3,hlen,<-hd,hi];simp only[List.take_append_drop,List.length_cons]
theorem OH:∀(n:Nat) (l:List Nat),l.length=n->mg l->∀x∈dQ l,x<65536:=by
 intro n;induction n using Nat.strongRecOn with
 |ind n ih=>
  intro l hl h x hx;by_cases hne:l=[]
  .subst hne;rw[Ez] at hx;cases hx
  .have hm:=EA hne;rw[Ee hne] at hx;rcases List.mem_cons.1 hx with rfl|hx
   .by_cases hr:14<=gY l\/gY l=l.length
    .have:=(abS h hne hr).1;omega
    .by_cases ho:nS l
     .have:=(abT h hr ho).2.1;omega
     .exact (abR h hr ho).2.1
   .exact ih (l.length-fM l) (by omega) (l.drop (fM l)) List.length_drop (I4 h _) x hx
theorem alR{l:List Nat}:dQ l=[]↔l=[]:=by
 constructor
 .intro h;by_cases hne:l=[]
  .exact hne
  .rw[Ee hne] at h;cases h
 .intro h;subst h;exact Ez
theorem aql:∀(n:Nat) (l:List Nat),l.length=n->mg l->(dQ l).length<=(l.length+6)/7:=by
 intro n;induction n using Nat.strongRecOn with
 |ind n ih=>
  intro l hl h;by_cases hne:l=[]
  .subst hne;rw[Ez];simp
  .have hm:=EA hne;have d1:(l.drop (fM l)).length=l.length-fM l:=List.length_drop;have hi:=ih (l.length-fM l) (by omega) (l.drop (fM l)) d1 (I4 h _);have h7:7<=fM l\/fM l=l.length:=by
    unfold fM;split
    .omega
    .split<;>omega
   rw[Ee hne,List.length_cons];rcases h7 with h7|h7
   .omega
   .have:(dQ (l.drop (fM l))).length=0:=by
     rw[alR.2 (List.drop_eq_nil_of_le (by omega))];rfl
    omega
end Go.Plain
namespace Go.Plain
def bl(n:Nat):Nat:=if n=0 then 0 else n.log2+1
theorem Pt(n:Nat):n<2^bl n:=by
 unfold bl;split
 .rename_i h;subst h;decide
 .exact Nat.lt_log2_self
theorem JK{n:Nat}(h:n≠0):1<=bl n/\2^(bl n-1)<=n:=by
 unfold bl;rw[if_neg h];exact ⟨by omega,by simpa using Nat.log2_self_le h⟩
theorem mM{n k:Nat}:bl n<=k↔n<2^k:=by
 constructor
 .intro h;exact Nat.lt_of_lt_of_le (Pt n) (Nat.pow_le_pow_right (by decide) h)
 .intro h;by_cases h0:n=0
  .subst h0;simp[bl]
  .obtain ⟨h1,h2⟩:=JK h0;have:2^(bl n-1)<2^k:=Nat.lt_of_le_of_lt h2 h;have:=(Nat.pow_lt_pow_iff_right (by decide)).1 this;omega
theorem Pv{n k:Nat}(h1:2^k<=n)(h2:n<2^(k+1)):bl n=k+1:=by
 have a:=mM.2 h2;have b:¬bl n<=k:=fun h=>by have:=mM.1 h;omega
 omega
theorem adi{n:Nat}(h:n≠0)(k:Nat):bl (n*2^k)=bl n+k:=by
 obtain ⟨h1,h2⟩:=JK h;have h3:=Pt n;have hp:0<2^k:=Nat.pow_pos (by decide);have e:bl n+k=bl n-1+k+1:=by omega
 rw[e];apply Pv
 .rw[Nat.pow_add];exact Nat.mul_le_mul_right _ h2
 .have e2:bl n-1+k+1=bl n+k:=by omega
  rw[e2,Nat.pow_add];exact Nat.mul_lt_mul_of_pos_right h3 hp
structure Rm where
 exp:Int
 gZ:Nat
 srcs:List Nat
 deriving DecidableEq
def Rm.zero:Rm:=⟨0,0,[]⟩
def Rm.ok(r:Rm):Prop:=r.gZ<4294967296/\∀c∈r.srcs,c<4294967296
def Rm.right(r:Rm):Prop:=(0<=r.exp/\r.exp<=63)/\r.gZ<262144/\(r.exp=0\/131072<=r.gZ)/\r.srcs.length<=255
instance Rm.asa(r:Rm):Decidable r.right:=by unfold Rm.right;exact inferInstance
def Rm.num(r:Rm):Nat:=r.exp.toNat*262144+r.gZ
def mI:List UInt8:=[82,69,77,66]
def Rm.bytes(r:Rm):List UInt8:=mI++(UInt8.ofNat r.srcs.length::(bT 3 r.num++words r.srcs))
def kE(e m:Nat):Nat:=if m=0 then e else min e (18-bl m)
def Gg(e m:Nat)(s:List Nat):Rm:= {exp:=((e-kE e m:Nat):Int),gZ:=m*2^kE e m,srcs:=s}
theorem ano(r:Rm)(h:r.right):Gg r.exp.toNat r.gZ r.srcs=r:=by
 obtain ⟨exp,gZ,srcs⟩:=r;obtain ⟨h1,h2,h3,h4⟩:=h;simp only at h1 h2 h3 h4;obtain ⟨e,rfl⟩:∃e:Nat,exp=e:=⟨exp.toNat,by omega⟩;have hu:gZ*2^kE e gZ=gZ/\e-kE e gZ=e:=by
  unfold kE;by_cases h0:gZ=0
  .subst h0;have:e=0:=by omega
   subst this;simp
  .rw[if_neg h0];rcases h3 with h3|h3
   .have:e=0:=by omega
    subst this;simp
   .have hb:bl gZ=18:=Pv (k:=17) h3 h2;rw[hb];simp
 simp only[Gg,Int.toNat_natCast,hu.1,hu.2]
def mV(b:List UInt8):Int:=
 if 65520<b.length\/b.length%4≠0 then 4 else if b.length<8 then 2 else if b.take 4≠mI then 6 else
 if (b.length-8)/4<at_ b 4 then 2 else if at_ b 4<(b.length-8)/4 then 4 else 0
def Rm.of(b:List UInt8):Rm:=Gg (Plain.num b 5 3/262144) (Plain.num b 5 3%262144) ((List.range (at_ b 4)).map fun i=>Plain.num b (8+4*i) 4)
def Gf(b:List UInt8):Rm:=if mV b=0 then Rm.of b else Rm.zero
theorem Z4{b:List UInt8}:mV b=0↔(b.length<=65520/\b.length%4=0)/\8<=b.length/\b.take 4=mI/\b.length=8+4*at_ b 4:=by
 unfold mV;split
 .simp;omega
 .split
  .simp;omega
  .split
   .rename_i h;simp at h |-;intro _ _ _ h';exact absurd h' h
   .rename_i h3;simp only[ne_eq,Decidable.not_not] at h3;split
    .simp;omega
    .split
     .simp;omega
     .simp[h3];omega
theorem Rm.uY(r:Rm):r.bytes.length=8+4*r.srcs.length:=by
 simp only[Rm.bytes,mI,List.length_append,List.length_cons,List.length_nil,oG,GD];omega
theorem Rm.oK(r:Rm)(h:r.right):r.num<16777216:=by
 obtain ⟨h1,h2,_⟩:=h;unfold Rm.num;omega
theorem Rm.back(r:Rm)(h:r.right)(ho:r.ok):mV r.bytes=0/\Rm.of r.bytes=r:=by
 have hn:=r.oK h;have hl:=r.uY;have h4:at_ r.bytes 4=r.srcs.length:=by
  have:at_ r.bytes 4=(UInt8.ofNat r.srcs.length).toNat:=rfl;rw[this,UInt8.toNat_ofNat'];have:=h.2.2.2;omega
 have ht:r.bytes.take 4=mI:=rfl;have qY:Plain.num r.bytes 5 3=r.num:=by
  have:=NQ (a:=mI++ [UInt8.ofNat r.srcs.length]) (b:=bT 3 r.num) (c:=words r.srcs) (n:=3) (oG _ _);rw[BM,Nat.mod_eq_of_lt (by omega)] at this;rw[<-this];simp[Rm.bytes,mI]
 have hw:((List.range r.srcs.length).map fun i=>Plain.num r.bytes (8+4*i) 4)=r.srcs:=by
  have:=YQ r.srcs [] ho.2;rw[List.append_nil] at this;rw[<-this];simp only[List.length_map,List.length_range];apply List.map_congr_left;intro i hi;have:=Eb (mI++(UInt8.ofNat r.srcs.length::bT 3 r.num)) (words r.srcs) (4*i) 4;have e:mI++(UInt8.ofNat r.srcs.length::bT 3 r.num)++words r.srcs=r.bytes:=by simp[Rm.bytes]
  have e2:(mI++(UInt8.ofNat r.srcs.length::bT 3 r.num)).length=8:=by simp[mI]
  rw[e,e2] at this;exact this
 refine ⟨?_,?_⟩
 .rw[Z4,hl,h4];have:=h.2.2.2;exact ⟨by omega,by omega,ht,rfl⟩
 .unfold Rm.of;rw[h4,hw,qY];obtain ⟨h1,h2,h3,_⟩:=h;have e1:r.num/262144=r.exp.toNat:=by unfold Rm.num;omega
  have e2:r.num%262144=r.gZ:=by unfold Rm.num;omega
  rw[e1,e2];exact ano r ⟨h1,h2,h3,by assumption⟩
def jQ(v:Nat):Rm:=⟨((bl v-18:Nat):Int),v/2^(bl v-18),[]⟩
def uS(r:Rm):Nat:=if r.right then (if 64<bl r.gZ+r.exp.toNat then 18446744073709551615 else r.gZ*2^r.exp.toNat) else 0
theorem Mv(v:Nat):v/2^(bl v-18)<262144/\(18<bl v->131072<=v/2^(bl v-18)/\bl (v/2^(bl v-18))=18):=by
 have h1:=Pt v;have a:v/2^(bl v-18)<262144:=by
  apply Nat.div_lt_of_lt_mul;have:(262144:Nat)=2^18:=rfl;rw[this,<-Nat.pow_add];exact Nat.lt_of_lt_of_le h1 (Nat.pow_le_pow_right (by decide) (by omega))
 refine ⟨a,fun h=>?_⟩;have h0:v≠0:=by intro e;subst e;simp[bl] at h
 obtain ⟨_,h3⟩:=JK h0;have b:131072<=v/2^(bl v-18):=by
  rw[Nat.le_div_iff_mul_le (Nat.pow_pos (by decide))];have:(131072:Nat)=2^17:=rfl;rw[this,<-Nat.pow_add];have e:17+(bl v-18)=bl v-1:=by omega
  rw[e];exact h3
 exact ⟨b,Pv (k:=17) b a⟩
theorem Yg(v:Nat)(h:v<18446744073709551616):(jQ v).right:=by
 obtain ⟨a,b⟩:=Mv v;have hb:bl v<=64:=mM.2 h;refine ⟨⟨by simp only[jQ];omega,by simp only[jQ];omega⟩,a,?_,by simp[jQ]⟩;by_cases hc:18<bl v
 .exact .inr (b hc).1
 .left;simp only[jQ];omega
theorem apS(v:Nat)(h:v<18446744073709551616):uS (jQ v)=v/2^(bl v-18)*2^(bl v-18):=by
 have hb:bl v<=64:=mM.2 h;obtain ⟨a,b⟩:=Mv v;have e:(jQ v).exp.toNat=bl v-18:=by simp[jQ]
 rw[uS,if_pos (Yg v h),e,if_neg]
 .rfl
 .show ¬64<bl (v/2^(bl v-18))+(bl v-18);by_cases hc:18<bl v
  .rw[(b hc).2];omega
  .have:bl (v/2^(bl v-18))<=18:=mM.2 (show _<2^18 from a);omega
theorem anm(v:Nat)(h:v<18446744073709551616):uS (jQ v)<=v/\v-uS (jQ v)<=v/131072/\(v<262144->uS (jQ v)=v):=by
 rw[apS v h];have hd:=Nat.div_add_mod v (2^(bl v-18));rw[Nat.mul_comm] at hd;have hlt:=Nat.mod_lt v (show 2^(bl v-18)>0 from Nat.pow_pos (by decide));refine ⟨by omega,?_,fun hs=>?_⟩
 .by_cases hc:18<bl v
  .have h0:v≠0:=by intro e;subst e;simp[bl] at hc
   obtain ⟨_,h3⟩:=JK h0;have:2^(bl v-18)<=v/131072:=by
    rw[Nat.le_div_iff_mul_le (by decide)];have e:(131072:Nat)=2^17:=rfl;rw[e,<-Nat.pow_add];have e2:bl v-18+17=bl v-1:=by omega
    rw[e2];exact h3
   omega
  .have e:bl v-18=0:=by omega
   rw[e] at hlt hd |-;simp at hlt hd |-
 .have hb:bl v<=18:=mM.2 hs;have e:bl v-18=0:=by omega
  rw[e];simp
end Go.Plain
namespace Go.Plain
structure Pk where
 hd:Hd
 aD:Nat
 ext:List UInt8
 pay:List UInt8
 pad:Nat
 deriving DecidableEq
def Pk.zero:Pk:=⟨Hd.zero,0,[],[],0⟩
def Pk.ok(k:Pk):Prop:=k.hd.ok/\k.aD<65536
def Pk.sum(k:Pk):Nat:=12+4*k.hd.bD.length+k.pay.length+k.pad+if k.hd.ext then 4+k.ext.length else 0
def Pk.fits(k:Pk):Prop:=k.hd.right/\k.ext.length%4=0/\k.ext.length/4<=65535/\(k.hd.ext=false->k.aD=0/\k.ext=[])/\(if k.hd.pad then 1<=k.pad/\k.pad<=255 else k.pad=0)
instance(k:Pk):Decidable k.fits:=by unfold Pk.fits;exact inferInstance
def Pk.right(k:Pk):Prop:=k.fits/\k.sum<=65535
instance(k:Pk):Decidable k.right:=by unfold Pk.right;exact inferInstance
def qo(k:Pk):List UInt8:=if k.hd.ext then bT 2 k.aD++(bT 2 (k.ext.length/4)++k.ext) else []
def xY(k:Pk)(t:List UInt8):List UInt8:=k.hd.bytes++(qo k++(k.pay++t))
def JO(n:Nat)(t:List UInt8):Prop:=t.length=n/\(n≠0->at_ t (n-1)=n)
def trail(n:Nat):List UInt8:=if n=0 then [] else List.replicate (n-1) 0++ [UInt8.ofNat n]
def Pk.bytes(k:Pk):List UInt8:=xY k (trail k.pad)
theorem M6{n:Nat}(h:n<=255):JO n (trail n):=by
 unfold JO trail;split
 .rename_i h;subst h;simp
 .refine ⟨by simp;omega,fun _=>?_⟩;simp only[at_,List.getD_eq_getElem?_getD];rw[List.getElem?_append_right (by simp)];simp;omega
def gL(b:List UInt8):Nat:=if b.length=0 then 0 else if at_ b (b.length-1)<1\/b.length<at_ b (b.length-1) then 0 else at_ b (b.length-1)
def eY(b:List UInt8):List UInt8:=if (Hd.of b).ext then (b.drop (hdN b+4)).drop (4*num b (hdN b+2) 2) else b.drop (hdN b)
def cZ(b:List UInt8):Int:=
 if 65535<b.length then 4
 else if lF b≠0 then lF b
 else if (Hd.of b).ext=true/\(b.length<hdN b+4\/b.length<hdN b+4+4*num b (hdN b+2) 2) then 2
 else if (Hd.of b).pad=true/\gL (eY b)=0 then 5
 else 0
def gI(b:List UInt8):Nat:=if (Hd.of b).pad then gL (eY b) else 0
def bG(b:List UInt8):Pk:=
 {hd:=Hd.of b
  aD:=if (Hd.of b).ext then num b (hdN b) 2 else 0
  ext:=if (Hd.of b).ext then (b.drop (hdN b+4)).take (4*num b (hdN b+2) 2) else []
  pay:=(eY b).take ((eY b).length-gI b)
  pad:=gI b}
def jR(b:List UInt8):Pk:=if cZ b=0 then bG b else Pk.zero
def Gi(b:List UInt8):List UInt8:=if cZ b=0 then (eY b).drop ((eY b).length-gI b) else []
theorem aov(a t:List UInt8)(n:Nat)(h:JO n t)(h1:1<=n):gL (a++t)=n:=by
 obtain ⟨h2,h3⟩:=h;have h3:=h3 (by omega);have e:at_ (a++t) ((a++t).length-1)=n:=by
  rw[<-h3];simp only[at_,List.getD_eq_getElem?_getD];rw[List.getElem?_append_right (by simp;omega)];congr 3
  simp;omega
 have hl:(a++t).length=a.length+n:=by rw[List.length_append,h2]
 unfold gL;rw[e,if_neg (by omega),if_neg (by omega)]
theorem akJ(k:Pk):(qo k).length=if k.hd.ext then 4+k.ext.length else 0:=by
 unfold qo;split<;>simp<;>omega
theorem GI(k:Pk)(t:List UInt8)(ht:t.length=k.pad):(xY k t).length=k.sum:=by
 unfold xY Pk.sum;simp only[List.length_append,Hd.uY,akJ,ht];omega
theorem UZ(b:List UInt8)(n m:Nat):(b.drop n).take m++b.drop (n+m)=b.drop n:=by rw[<-List.drop_drop,List.take_append_drop]
theorem Oq(b:List UInt8):gL b<=b.length/\gL b<=255/\(gL b≠0->at_ b (b.length-1)=gL b):=by
 unfold gL;have:=gq b (b.length-1);split
 .simp
 .split
  .simp
  .refine ⟨by omega,by omega,fun _=>rfl⟩
theorem Pk.same(b:List UInt8)(h:cZ b=0):(bG b).right/\(bG b).ok/\JO (bG b).pad ((eY b).drop ((eY b).length-gI b))/\b=xY (bG b) ((eY b).drop ((eY b).length-gI b)):=by
 unfold cZ at h;split at h
 .cases h
 rename_i hb;split at h
 .rename_i h2;exact absurd h h2
 rename_i h2;have h2:lF b=0:=by simpa using h2
 split at h
 .cases h
 rename_i h3;split at h
 .cases h
 rename_i h4;clear h;obtain ⟨s1,s2,s3,s4⟩:=Hd.same b h2;have hz:=Iw.1 h2;have hN:hdN b=12+4*(at_ b 0%16):=by unfold hdN;rw[if_pos h2]
 have hlb:(Hd.of b).bytes.length=hdN b:=by rw[Hd.uY,s3,hN]
 have hsplit:b=(Hd.of b).bytes++b.drop (hdN b):=by
  rw[s4,<-hN,List.take_append_drop]
 obtain ⟨t1,t2,t3⟩:=Oq (eY b);have hpd:gI b<=(eY b).length:=by unfold gI;split<;>omega
 have hx:b.drop (hdN b)=qo (bG b)++eY b/\(bG b).ext.length%4=0/\(bG b).ext.length/4<=65535/\(bG b).aD<65536:=by
  unfold qo bG eY;simp only;by_cases he:(Hd.of b).ext=true
  .rw[if_pos he,if_pos he,if_pos he,if_pos he];have hlen:hdN b+4+4*num b (hdN b+2) 2<=b.length:=by
    have:¬(b.length<hdN b+4\/b.length<hdN b+4+4*num b (hdN b+2) 2):=fun hh=>h3 ⟨he,hh⟩;omega
   have hn:=oK b (hdN b+2) 2;have le:((b.drop (hdN b+4)).take (4*num b (hdN b+2) 2)).length=4*num b (hdN b+2) 2:=by
    simp;omega
   rw[le];refine ⟨?_,by omega,by omega,oK b (hdN b) 2⟩;have e1:bT 2 (num b (hdN b) 2)=(b.drop (hdN b)).take 2:=Ca (by omega);have e2:bT 2 (num b (hdN b+2) 2)=(b.drop (hdN b+2)).take 2:=Ca (by omega);rw[show 4*num b (hdN b+2) 2/4=num b (hdN b+2) 2 by omega,e1,e2];rw[List.append_assoc,List.append_assoc,List.take_append_drop];have c1:(b.drop (hdN b+2)).take 2++b.drop (hdN b+4)=b.drop (hdN b+2):=by
    exact UZ b (hdN b+2) 2
   have c2:(b.drop (hdN b)).take 2++b.drop (hdN b+2)=b.drop (hdN b):=by
    exact UZ b (hdN b) 2
   rw[c1,c2]
  .rw[if_neg he,if_neg he,if_neg he,if_neg he];exact ⟨by simp,by simp,by simp,by omega⟩
 obtain ⟨x1,x2,x3,x4⟩:=hx;have hpay:(bG b).pay++(eY b).drop ((eY b).length-gI b)=eY b:=List.take_append_drop _ _;have hb2:b=xY (bG b) ((eY b).drop ((eY b).length-gI b)):=by
  unfold xY;rw[hpay,<-x1];exact hsplit
 have htl:((eY b).drop ((eY b).length-gI b)).length=(bG b).pad:=by
  rw[List.length_drop];show _=gI b;omega
 have hsum:=GI (bG b) _ htl;rw[<-hb2] at hsum;have aqG:if (bG b).hd.pad then 1<=(bG b).pad/\(bG b).pad<=255 else (bG b).pad=0:=by
  show if (Hd.of b).pad then 1<=gI b/\gI b<=255 else gI b=0
  unfold gI;by_cases hq:(Hd.of b).pad=true
  .rw[if_pos hq,if_pos hq];have:gL (eY b)≠0:=fun hh=>h4 ⟨hq,hh⟩;omega
  .rw[if_neg hq,if_neg hq]
 refine ⟨⟨⟨s1,x2,x3,fun he=>?_,aqG⟩,by omega⟩,⟨s2,x4⟩,⟨htl,fun hne=>?_⟩,hb2⟩
 .have he:(Hd.of b).ext=false:=he;simp[bG,he]
 .have hpp:(bG b).pad=gI b:=rfl;rw[hpp] at hne |-;have hq:gI b=gL (eY b):=by
   unfold gI at hne |-;split at hne
   .rename_i hh;rw[if_pos hh]
   .exact absurd rfl hne
  have:=t3 (by omega);rw[<-hq] at this;have e:at_ ((eY b).drop ((eY b).length-gI b)) (gI b-1)=at_ (eY b) ((eY b).length-1):=by
   simp only[at_,List.getD_eq_getElem?_getD,List.getElem?_drop];rw[show (eY b).length-gI b+(gI b-1)=(eY b).length-1 by omega]
  exact e.trans this
end Go.Plain
namespace Go.Vc
def VC.pG:List Nat->VC->Bool
 |_,.fail _=>true
 |ls,.aj _ _ k=>k.pG ls
 |ls,.call _ _ _ _ k=>k.pG ls
 |ls,.cond _ a b=>a.pG ls&&b.pG ls
 |_,.wM _ _ _=>false
 |_,.ret _=>true
 |ls,.loop i b=>b.pG (ls++ [i.length])
 |ls,.back l es=>es.length==ls.getD l 0
 |ls,.cut n b r=>b.pG (ls++ [n])&&r.pG ls
def vP(Post:List (Sh×C)->Prop)(ls:List Nat)(B:List (List C->Prop))(O:List (List C->List (Sh×C)->Prop)):Prop:=
 ls.length=B.length/\O.length=B.length/\∀i vs,vs.length=ls.getD i 0->(B.getD i fun _=>False) vs->∃rs,Post rs/\(O.getD i fun _ _=>False) vs rs
theorem Zp{α:Type}{l:List α}{x d:α}{i:Nat}:(l++ [x]).getD i d=if i<l.length then l.getD i d else if i=l.length then x else d:=by
 simp only[yK];split
 .rw[rD (by assumption)]
 .rw[yJ (by omega)];split
  .subst_vars;simp
  .rw[C8 (by simp;omega)];rfl
theorem vP.snoc{Post:List (Sh×C)->Prop}{ls:List Nat}{B:List (List C->Prop)}{O:List (List C->List (Sh×C)->Prop)}(h:vP Post ls B O){n:Nat}{b:List C->Prop}{o:List C->List (Sh×C)->Prop}
  (hn:∀vs,vs.length=n->b vs->∃rs,Post rs/\o vs rs):vP Post (ls++ [n]) (B++ [b]) (O++ [o]):=by
 obtain ⟨h1,h2,h3⟩:=h;refine ⟨by simp[h1],by simp[h2],fun i vs hl hb=>?_⟩;rw[Zp] at hl hb;rw[Zp];rw[h1] at hl;rw[h2];by_cases hi:i<B.length
 .rw[if_pos hi] at*;exact h3 i vs hl hb
 .rw[if_neg hi] at*;by_cases hj:i=B.length
  .rw[if_pos hj] at*;exact hn vs hl hb
  .rw[if_neg hj] at*;exact hb.elim
theorem amB{O:List (List C->List (Sh×C)->Prop)}{rs:List (Sh×C)}{i:Nat}{vs:List C}:((O.map fun o vs=>o vs rs).getD i fun _=>False) vs=(O.getD i fun _ _=>False) vs rs:=by
 simp only[yK,kM];cases O[i]?<;>rfl
theorem Zh{O:List (List C->List (Sh×C)->Prop)}{o:List C->List (Sh×C)->Prop}{rs:List (Sh×C)}:((O++ [o]).map fun o vs=>o vs rs)=(O.map fun o vs=>o vs rs)++ [fun vs=>o vs rs]:=by simp
theorem wQ.last{B:List (List C->Prop)}{f g:List C->Prop}(h:∀vs,f vs->g vs):wQ (B++ [f]) (B++ [g]):=by
 refine ⟨by simp,fun i f' g' vs h1 h2 h3=>?_⟩;by_cases hi:i<B.length
 .rw[rD hi] at h1 h2;rw[h1] at h2;cases h2;exact h3
 .have hi':i=B.length:=by
   have:=(dF.1 h1).1;simp at this;omega
  subst hi';rw[yJ (aI _)] at h1 h2;simp at h1 h2;subst h1 h2;exact h vs h3
theorem VC.det_holds{P:Program}{Post:List (Sh×C)->Prop}:∀(k:VC) {ls:List Nat} {B:List (List C->Prop)} {O:List (List C->List (Sh×C)->Prop)} {ρ:List C},
  k.pG ls=true->vP Post ls B O->k.holds P Post B ρ->∃rs,Post rs/\k.holds P (fun r=>r=rs) (O.map fun o vs=>o vs rs) ρ
 | .fail _,_,_,_,_,_,_,h=>h.elim
 | .aj _ _ k,_,_,_,_,hd,hl,h=>let ⟨rs,h1,h2⟩:=VC.det_holds k hd hl h.2;⟨rs,h1,h.1,h2⟩
 | .call _ _ _ _ k,_,_,_,_,hd,hl,⟨res,h1,h2,h3⟩=>let ⟨rs,h4,h5⟩:=VC.det_holds k hd hl h3;⟨rs,h4,res,h1,h2,h5⟩
 | .cond e a b,_,_,_,ρ,hd,hl,h=>by
  simp only[VC.pG,aP] at hd;cases he:(e.eval ρ).toBool with
  |true=>
   obtain ⟨rs,h1,h2⟩:=VC.det_holds a hd.1 hl (h.1 he);exact ⟨rs,h1,VC.aqh he h2⟩
  |false=>
   obtain ⟨rs,h1,h2⟩:=VC.det_holds b hd.2 hl (h.2 he);exact ⟨rs,h1,VC.aqL he h2⟩
 | .wM _ _ _,_,_,_,_,hd,_,_=>by simp[VC.pG] at hd
 | .ret _,_,_,_,_,_,_,h=>⟨_,h,rfl⟩
 | .back l es,ls,B,O,ρ,hd,hl,h=>by
  simp only[VC.pG,beq_iff_eq] at hd;rw[VC.Fg] at h;obtain ⟨rs,h1,h2⟩:=hl.2.2 l _ (by rw[aT,hd]) h;refine ⟨rs,h1,?_⟩;rw[VC.Fg,amB];exact h2
 | .cut n b r,ls,B,O,ρ,hd,hl,⟨I,hb,hr⟩=>by
  simp only[VC.pG,aP] at hd;have h1:vP Post (ls++ [n]) (B++ [I]) (O++ [fun vs rs=>r.holds P (fun q=>q=rs) (O.map fun o vs=>o vs rs) (ρ++vs)]):=
   hl.snoc fun vs hn hi=>VC.det_holds r hd.2 hl (hr vs hn hi)
  obtain ⟨rs,h2,h3⟩:=VC.det_holds b hd.1 h1 hb;rw[Zh] at h3;exact ⟨rs,h2,_,h3,fun vs _ h=>h⟩
 | .loop init b,ls,B,O,ρ,hd,hl,⟨I,μ,hi,hb⟩=>by
  simp only[VC.pG] at hd;let T:Nat->List C->List (Sh×C)->Prop:=fun n=>Nat.rec (fun _ _=>False)
   (fun _ t vs rs=>b.holds P (fun q=>q=rs) ((O.map fun o vs=>o vs rs)++ [fun vs'=>(vs'.length=init.length/\I vs'/\μ vs'<μ vs)/\t vs' rs]) (ρ++vs)) n
  have hT:∀n vs rs,T (n+1) vs rs=b.holds P (fun q=>q=rs) ((O.map fun o vs=>o vs rs)++ [fun vs'=>(vs'.length=init.length/\I vs'/\μ vs'<μ vs)/\T n vs' rs]) (ρ++vs):=fun _ _ _=>rfl;have low:∀m n vs rs,T (n+1) vs rs->μ vs<=m->T (m+1) vs rs:=by
   intro m;induction m with
   |zero=>
    intro n vs rs h hm;replace h:=(hT n vs rs).mp h;refine (hT 0 vs rs).mpr ?_;exact VC.pK (wQ.last fun vs' hv=>absurd hv.1.2.2 (by omega)) b h
   |succ m ih=>
    intro n vs rs h hm;replace h:=(hT n vs rs).mp h;refine (hT (m+1) vs rs).mpr ?_;refine VC.pK (wQ.last fun vs' hv=>⟨hv.1,?_⟩) b h;cases n with
    |zero=>exact hv.2.elim
    |succ n=>exact ih n vs' rs hv.2 (by have:=hv.1.2.2;omega)
  have ex:∀m vs,μ vs<m->vs.length=init.length->I vs->∃rs,Post rs/\T m vs rs:=by
   intro m;induction m with
   |zero=>intro vs h;omega
   |succ m ih=>
    intro vs hm hlen hI;have hs:vP Post (ls++ [init.length]) (B++ [fun vs'=>I vs'/\μ vs'<μ vs]) (O++ [fun vs' rs=>(vs'.length=init.length/\I vs'/\μ vs'<μ vs)/\T m vs' rs]):=
     hl.snoc fun vs' hn hv=>by
      obtain ⟨rs,h1,h2⟩:=ih vs' (by omega) hn hv.1;exact ⟨rs,h1,⟨hn,hv.1,hv.2⟩,h2⟩
    obtain ⟨rs,h1,h2⟩:=VC.det_holds b hd hs (hb vs hlen hI);rw[Zh] at h2;exact ⟨rs,h1,h2⟩
  have hlen:(init.map (·.eval ρ)).length=init.length:=by simp
  obtain ⟨rs,h1,h2⟩:=ex _ _ (Nat.lt_succ_self _) hlen hi;refine ⟨rs,h1,fun vs=>T (μ vs+1) vs rs,μ,h2,fun vs _ h=>?_⟩;replace h:=(hT (μ vs) vs rs).mp h;refine VC.pK (wQ.last fun vs' hv=>⟨?_,hv.1.2.2⟩) b h;obtain ⟨⟨_,_,hlt⟩,ht⟩:=hv;cases hm:μ vs with
  |zero=>omega
  |succ n=>
   rw[hm] at ht;exact low _ n vs' rs ht (aI _)
theorem vP.nil{Post:List (Sh×C)->Prop}:vP Post [] [] []:=⟨rfl,rfl,fun i vs _ h=>by simp at h⟩
theorem VC.tells{P:Program}{Post:List (Sh×C)->Prop}{k:VC}{ρ:List C}(hd:k.pG []=true)(h:k.holds P Post [] ρ):∃rs,Post rs/\k.holds P (fun r=>r=rs) [] ρ:=VC.det_holds k hd vP.nil h
end Go.Vc
namespace Go.Plain
structure dJ where
 f:Int
 p:Nat
 s:Nat
def dJ.zero:dJ:=⟨0,0,0⟩
def lg(l:List dJ):Nat:=match l.getLast? with|some x=>x.p+x.s|none=>0
def fH(l:List dJ)(f:Int)(n:Nat):List dJ:=if n=0 then l else l++ [⟨f,lg l,n⟩]
def iG:Nat->List dJ->List dJ
 |0,l=>l
 |n+1,l=>fH (iG n l) 6 4
def iD:List dJ:=fH (fH (fH (fH (fH [] 1 1) 2 1) 3 2) 4 4) 5 4
def o8(k:Pk)(l:List dJ):List dJ:=if k.hd.ext then fH (fH (fH l 7 2) 8 2) 9 k.ext.length else l
def uK(k:Pk)(l:List dJ):List dJ:=if k.hd.pad then fH (fH l 11 (k.pad-1)) 12 1 else l
def placesOf(k:Pk):List dJ:=uK k (fH (o8 k (iG k.hd.bD.length iD)) 10 k.pay.length)
def fF(l:List dJ)(f:Int):Option dJ:=l.find? (fun x=>decide (x.f=f))
theorem MK(l:List dJ)(f:Int)(n:Nat):lg (fH l f n)=lg l+n:=by
 unfold fH;split
 .rename_i h;rw[h];rfl
 .unfold lg;simp
theorem nQ(l:List dJ)(f g:Int)(n:Nat):fF (fH l f n) g=(fF l g).or (if f=g/\n≠0 then some ⟨f,lg l,n⟩ else none):=by
 unfold fH fF;by_cases h:n=0
 .simp[h]
 .rw[if_neg h,List.find?_append];congr 1
  by_cases hf:f=g<;>simp[hf,h]
theorem xw(l:List dJ)(f:Int)(n:Nat):l.length<=(fH l f n).length/\(fH l f n).length<=l.length+1:=by
 unfold fH;split<;>simp
theorem Hg(n:Nat)(l:List dJ):lg (iG n l)=lg l+4*n/\(iG n l).length<=l.length+n/\∀g:Int,g≠6->fF (iG n l) g=fF l g:=by
 induction n with
 |zero=>exact ⟨rfl,Nat.le_refl _,fun _ _=>rfl⟩
 |succ n ih=>
  obtain ⟨h1,h2,h3⟩:=ih;have:=xw (iG n l) 6 4;refine ⟨?_,?_,fun g hg=>?_⟩
  .rw[iG,MK,h1];omega
  .rw[iG];omega
  .rw[iG,nQ,h3 g hg,if_neg (fun h=>hg h.1.symm),Option.or_none]
theorem akE(k:Pk):fF (placesOf k) 2=some ⟨2,1,1⟩/\fF (placesOf k) 3=some ⟨3,2,2⟩/\fF (placesOf k) 4=some ⟨4,4,4⟩/\fF (placesOf k) 5=some ⟨5,8,4⟩:=by
 have key:∀g:Int,∀x,fF iD g=some x->g≠6->fF (placesOf k) g=some x:=by
  intro g x hx hg;have h1:fF (iG k.hd.bD.length iD) g=some x:=by rw[(Hg _ _).2.2 g hg,hx]
  have h2:fF (o8 k (iG k.hd.bD.length iD)) g=some x:=by
   unfold o8;split
   .rw[nQ,nQ,nQ,h1];rfl
   .exact h1
  unfold placesOf uK;split
  .rw[nQ,nQ,nQ,h2];rfl
  .rw[nQ,h2];rfl
 exact ⟨key 2 _ rfl (by decide),key 3 _ rfl (by decide),key 4 _ rfl (by decide),key 5 _ rfl (by decide)⟩
theorem aaq(k:Pk):fF (placesOf k) 9=if k.hd.ext=true/\k.ext.length≠0 then some ⟨9,12+4*k.hd.bD.length+4,k.ext.length⟩ else none:=by
 obtain ⟨h1,_,h3⟩:=Hg k.hd.bD.length iD;have h3:=h3 9 (by decide);have e5:lg iD=12:=rfl;have n5:fF iD 9=none:=rfl;have hx:fF (o8 k (iG k.hd.bD.length iD)) 9=if k.hd.ext=true/\k.ext.length≠0 then some ⟨9,12+4*k.hd.bD.length+4,k.ext.length⟩ else none:=by
  unfold o8;by_cases he:k.hd.ext=true
  .rw[if_pos he,nQ,nQ,nQ,h3,n5];simp[he,MK,h1,e5]
  .rw[if_neg he,h3,n5,if_neg (fun h=>he h.1)]
 unfold placesOf uK;split
 .rw[nQ,nQ,nQ,hx];simp
 .rw[nQ,hx];simp
theorem y8(k:Pk):(placesOf k).length<=20+k.hd.bD.length:=by
 obtain ⟨_,h2,_⟩:=Hg k.hd.bD.length iD;have e5:iD.length=5:=rfl;rw[e5] at h2;have hx:(o8 k (iG k.hd.bD.length iD)).length<=8+k.hd.bD.length:=by
  unfold o8;split
  .have a:=xw (iG k.hd.bD.length iD) 7 2;have b:=xw (fH (iG k.hd.bD.length iD) 7 2) 8 2;have c:=xw (fH (fH (iG k.hd.bD.length iD) 7 2) 8 2) 9 k.ext.length;omega
  .omega
 unfold placesOf uK;have d:=xw (o8 k (iG k.hd.bD.length iD)) 10 k.pay.length;split
 .have a:=xw (fH (o8 k (iG k.hd.bD.length iD)) 10 k.pay.length) 11 (k.pad-1);have b:=xw (fH (fH (o8 k (iG k.hd.bD.length iD)) 10 k.pay.length) 11 (k.pad-1)) 12 1;omega
 .omega
end Go.Plain
