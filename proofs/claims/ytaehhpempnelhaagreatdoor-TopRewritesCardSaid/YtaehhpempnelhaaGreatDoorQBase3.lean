/-
  My own general texts, one behind the other: a generator of conditions over the model, with its proof, and plain lemmas. No condition on the program.
-/
import Derived.Test.YtaehhpempnelhaaGreatDoorQBase2
import Derived.ProofKit
import Derived.OpenShut
import Derived.ShutString
import Derived.ChangeOld
import Derived.Below
namespace Go.Vc
section
variable {P:Program} {cfg:bU} {ev:Ev} {pc:aM} {nv:Nat} {o:Oper}
theorem DT (c d:List cZ) (bs:List aA):aT (c++d) bs=aT d (aT c bs):=by simp[aT]
theorem ahQ (bs:List aA):qj P cfg o ev bs=(oM P cfg o ev bs).map fun y=>(y.1,aT y.2.1 bs,y.2.2):=by
 have h1:∀r es e i fo s bN x,Bj bs r es e i fo s bN x=(Bl bs r es e i fo s bN x).map fun cs=>aT cs bs:=by
  intro r es e i fo s bN x;unfold Bj Bl;cases hx:gW (aX bs) [] x with
  |none=>rfl
  |some y=>
   obtain ⟨s',ex,f⟩:=y;simp only;by_cases hc:(decide (s=s')&& !f.contains r)=true
   ·simp only[hc,if_true];cases bN with
    |none=>
     simp only;by_cases he:s=es
     ·rw[if_pos he,if_pos he,Option.map_some,DT,o7];rfl
     ·rw[if_neg he,if_neg he];rfl
    |some j=>
     simp only;by_cases he:es.bN j=some (s,fo)
     ·rw[if_pos he,if_pos he,Option.map_some,DT,o7];rfl
     ·rw[if_neg he,if_neg he];rfl
   ·rw[if_neg hc,if_neg hc];rfl
 have h2:∀r cs fo s x,Bn bs r cs fo s x=(Bo bs r cs fo s x).map fun cs=>aT cs bs:=by
  intro r cs fo s x;unfold Bn Bo;cases x with
  |dat s' ex=>simp only;split<;>rfl
  |full r' n=>
   simp only;cases rowOf (aX bs) [] r' with
   |none=>rfl
   |some y=>simp only;split<;>rfl
  |_=>rfl
 have h3:∀t a x,Cc P bs t a x=(qI P bs t a x).map fun cs=>aT cs bs:=by
  intro t a x;unfold Cc qI;cases a with
  |none=>rfl
  |some sa=>
   cases x with
   |none=>cases sa<;>rfl
   |some x=>
    cases sa with
    |ref r i fo s bN=>
     simp only;by_cases hf:gP P t s=true
     ·rw[if_pos hf,if_pos hf];cases hb:bs[r]? with
      |none=>rfl
      |some k=>
       obtain ⟨lb,fz,p⟩:=k;cases lb with
       |row es e=>cases fz<;>cases p<;>first|rfl|exact h1 ..
       |box cs=>cases fz<;>cases p<;>first|rfl|exact h2 ..
       |_=>rfl
     ·rw[if_neg hf,if_neg hf];rfl
    |_=>rfl
 have h4:∀k ts d a b,BZ P k bs ts d a b=(zn P k bs ts d a b).map fun y=>(y.1,aT y.2.1 bs,y.2.2):=by
  intro k ts d a b;unfold BZ zn;cases mQ P (ts.getD 0 0) with
  |none=>rfl
  |some et=>
   cases a with
   |none=>rfl
   |some sa=>
    cases b with
    |none=>rfl
    |some sb=>
     simp only;cases mW P bs et (ts.getD 1 0) sb with
     |none=>rfl
     |some y=>
      obtain ⟨s,m,f⟩:=y;simp only;by_cases hc:(decide (ts.size=2)&&(zeroE P et s).isSome&&gP P et s&&s.size !=0&&P.bytesOf et !=0)=true
      ·rw[if_pos hc,if_pos hc];cases sa with
       |full r n=>
        simp only;cases ownRow bs r with
        |none=>rfl
        |some z=>
         simp only;cases k with
         |true=>simp only[if_true];split<;>rfl
         |false=>simp only[Bool.false_eq_true,if_false];split<;>rfl
       |dat s' e=>
        cases s' with
        |sl s''=>cases e with
         |aW=>simp only;split<;>rfl
         |_=>rfl
        |_=>rfl
       |_=>rfl
      ·rw[if_neg hc,if_neg hc];rfl
 have h5:∀ts a b,CV P bs ts a b=(xu P bs ts a b).map fun y=>(y.1,aT y.2 bs):=by
  intro ts a b;unfold CV xu;cases mQ P (ts.getD 0 0) with
  |none=>rfl
  |some et=>
   cases a with
   |none=>rfl
   |some sa=>
    cases b with
    |none=>rfl
    |some sb=>
     simp only;cases qU P bs (ts.getD 1 0) sb with
     |none=>rfl
     |some y=>
      cases Gw sa with
      |none=>rfl
      |some z=>
       simp only;cases ownRow bs z.1 with
       |none=>rfl
       |some u=>simp only;split<;>rfl
 unfold qj oM;generalize o.op=op;cases op<;>(try rfl)
 case store t a x=>
  simp only[h3];cases qI P bs t (ev [] a 0) (ev [] x t)<;>rfl
 case call c=>
  obtain ⟨callee,args,ts⟩:=c;cases callee with
  |builtin b=>
   cases b<;>(try rfl)
   case append=>
    simp only;obtain ⟨al⟩:=args;cases o.dst with
    |none=>match al with
     | []=>rfl
     | [_]=>rfl
     | [_,_]=>rfl
     |_::_::_::_=>rfl
    |some d=>match al with
     | []=>rfl
     | [_]=>rfl
     | [a,b]=>exact h4 ..
     |_::_::_::_=>rfl
   case copy=>
    simp only;obtain ⟨al⟩:=args;match al with
    | []=>rfl
    | [_]=>rfl
    | [a,b]=>
     simp only[h5];cases xu P bs ts (ev [] a (ts.getD 0 0)) (ev [] b (ts.getD 1 0))<;>rfl
    |_::_::_::_=>rfl
  |value f=>rfl
  |invoke r m=>rfl
 case convert src dst x=>
  simp only;by_cases hsd:src=dst
  ·rw[if_pos hsd,if_pos hsd];cases uT P bs src (ev [] x src) with
   |none=>rfl
   |some y=>rfl
  ·rw[if_neg hsd,if_neg hsd];rfl
 case mapUpdate t m k x=>
  simp only;cases uS P bs t (ev [] m t) (lY (ev [] k 0)) (ev [] x 0) with
  |none=>rfl
  |some y=>rfl
 case next it b=>
  cases b with
  |false=>rfl
  |true=>
   simp only;cases uR bs (ev [] it 0) with
   |none=>rfl
   |some y=>rfl
def mV (dx bs:List aA):Prop:=∀(r:Nat) (k:aA),dx[r]?=some k→k.lb≠ .none→bs[r]?=some k
theorem mV.rb {dx bs:List aA} (h:mV dx bs):kC (aX dx) (aX bs):=by
 intro r b hb hn;unfold aX at hb ⊢;cases hk:dx[r]? with
 |none=>simp[hk] at hb
 |some k=>
  simp[hk] at hb;subst hb;rw[h r k hk hn]
theorem TQ {dx bs:List aA} (h:mV dx bs) {r:Nat} {y:Sh×E} (hr:ownRow dx r=some y):ownRow bs r=some y:=by
 obtain ⟨s,e⟩:=y;have:=h r _ (vR hr) (by simp);simp[ownRow,this]
theorem Vu {dx bs : List aA} (h : mV dx bs) {t : TypeId} {x : SX} {y : Sh × E × List Nat} (hs : qU P dx t x = some y) : qU P bs t x = some y := by
  unfold qU at hs ⊢;cases hu : P.underlying t with
  | none => rw [hu] at hs; cases x with
    | dat s e => cases s <;> simp at hs
    | _ => simp at hs
  | some d =>
    rw [hu] at hs;cases d with
    | slice et => cases x with
      | dat s e =>
        cases s <;>
          (simp only at hs ⊢
           split at hs
           · rename_i hd; rw [y9 h.rb hd]; exact hs
           · simp at hs)
      | _ =>
        simp only at hs ⊢;split at hs
        · rename_i hd; rw [y9 h.rb hd]; exact hs
        · simp at hs
    | string => cases x with
      | dat s e => cases s <;> first | exact hs | (simp at hs)
      | _ => simp at hs
    | _ => cases x with
      | dat s e => cases s <;> simp at hs
      | _ => simp at hs
theorem afM {dx bs:List aA} (h:mV dx bs) {t:TypeId} {a x:Option SX} {cs:List cZ} (hs:qI P dx t a x=some cs):qI P bs t a x=some cs:=by
 unfold qI at hs ⊢;split at hs
 ·split at hs
  ·rename_i hf;simp only[hf,if_true];split at hs
   ·rename_i hb;rw[h _ _ hb (by simp)];simp only;unfold Bl at hs ⊢;split at hs
    ·rename_i hd;rw[y9 h.rb hd];exact hs
    ·simp at hs
   ·rename_i hb;rw[h _ _ hb (by simp)];simp only;unfold Bo at hs ⊢;split at hs
    ·exact hs
    ·split at hs
     ·rename_i hr;rw[qB h.rb hr];exact hs
     ·simp at hs
    ·simp at hs
   ·simp at hs
  ·simp at hs
 ·simp at hs
theorem afT (P:Program) (et t:TypeId) (x:SX):(∃z,∀bs,mW P bs et t x=z)∨∀bs,mW P bs et t x=qU P bs t x:=by
 cases hu:P.underlying t with
 |none=>
  right;intro bs;unfold mW;rw[hu];cases x with
  |dat s e=>cases s<;>rfl
  |_=>rfl
 |some d=>
  cases x with
  |dat s e=>cases s with
   |int k=>cases d with
    |int q=>left;exact ⟨_,fun bs=>by unfold mW;rw[hu]⟩
    |_=>right;intro bs;unfold mW;rw[hu]
   |_=>right;intro bs;unfold mW;rw[hu]
  |_=>right;intro bs;unfold mW;rw[hu]
theorem ahx {dx bs:List aA} (h:mV dx bs) {et t:TypeId} {x:SX} {y:Sh×E×List Nat} (hs:mW P dx et t x=some y):mW P bs et t x=some y:=by
 rcases afT P et t x with ⟨z,hz⟩|hz
 ·rw[hz] at hs ⊢;exact hs
 ·rw[hz] at hs ⊢;exact Vu h hs
theorem afE {dx bs:List aA} (h:mV dx bs) {k:Bool} {ts:Array TypeId} {d:Nat} (hd:dx[d]?=bs[d]?) {a b:Option SX} {y:SX×List cZ×List Ob} (hs:zn P k dx ts d a b=some y):zn P k bs ts d a b=some y:=by
 have hfree:lW dx d=lW bs d:=by unfold lW;rw[hd]
 unfold zn at hs ⊢;split at hs
 ·split at hs
  ·simp at hs
  ·rename_i hsrc;rw[ahx h hsrc];simp only;split at hs
   ·rename_i hc;rw[if_pos hc];split at hs
    ·rw[hfree] at hs;exact hs
    ·split at hs
     ·rename_i hr;rw[TQ h hr];simp only;rw[hfree] at hs;exact hs
     ·simp at hs
    ·simp at hs
   ·simp at hs
 ·simp at hs
theorem ahc {dx bs:List aA} (h:mV dx bs) {ts:Array TypeId} {a b:Option SX} {y:SX×List cZ} (hs:xu P dx ts a b=some y):xu P bs ts a b=some y:=by
 unfold xu at hs ⊢;split at hs
 ·split at hs
  ·rename_i hsrc hdst;rw[Vu h hsrc,hdst];simp only;split at hs
   ·rename_i hr;rw[TQ h hr];exact hs
   ·simp at hs
  ·simp at hs
 ·simp at hs
theorem agZ {dx bs:List aA} (h:mV dx bs) {t:TypeId} {m x:Option SX} {k:Option (IntKind×E)} {y:Nat×aA} (hs:uS P dx t m k x=some y):uS P bs t m k x=some y:=by
 unfold uS at hs ⊢;split at hs
 ·split at hs
  ·rename_i hb;rw[h _ _ hb (by simp)];exact hs
  ·simp at hs
 ·simp at hs
theorem agY {dx bs:List aA} (h:mV dx bs) {it:Option SX} {y:SX×Nat×aA} (hs:uR dx it=some y):uR bs it=some y:=by
 unfold uR at hs ⊢;split at hs
 ·split at hs
  ·rename_i hb;rw[h _ _ hb (by simp)];exact hs
  ·simp at hs
 ·simp at hs
theorem afa {dx bs:List aA} (h:mV dx bs) {r:Nat} {y:Sh×E} (hs:ownRow dx r=some y):ownRow bs r=some y:=by
 obtain ⟨s,e⟩:=y;have h1:=vR hs;have h2:=h _ _ h1 (by simp);unfold ownRow;rw[h2]
theorem ag2 {dx bs:List aA} (h:mV dx bs) {t:TypeId} {x:Option SX} {y:Sh×E×Nat} (hs:uT P dx t x=some y):uT P bs t x=some y:=by
 unfold uT at hs ⊢;split at hs
 ·split at hs
  ·rename_i hu hb;rw[hu,afa h hb];exact hs
  ·simp at hs
 ·simp at hs
theorem ahR {dx bs:List aA} (h:mV dx bs) (hd:∀d,o.dst=some d→dx[d]?=bs[d]?) {y:SX×List cZ×List Ob} (hs:oM P cfg o ev dx=some y):oM P cfg o ev bs=some y:=by
 unfold oM at hs ⊢;split at hs
 ·split at hs
  ·rename_i hst;rw[afM h hst];exact hs
  ·simp at hs
 ·split at hs
  ·rename_i hdst;exact afE h (hd _ hdst) hs
  ·simp at hs
 ·split at hs
  ·split at hs
   ·rename_i hc;rw[ahc h hc];exact hs
   ·simp at hs
  ·simp at hs
 ·split at hs
  ·rename_i hsd;rw[if_pos hsd];split at hs
   ·rename_i hb;rw[ag2 h hb];exact hs
   ·simp at hs
  ·simp at hs
 ·split at hs
  ·rename_i hb;rw[agZ h hb];exact hs
  ·simp at hs
 ·split at hs
  ·rename_i hb;rw[agY h hb];exact hs
  ·simp at hs
 ·simp at hs
theorem tV (F:List Nat) (bs:List aA) (r:Nat):(iw F bs)[r]?=(bs[r]?).map fun b=>if F.contains r then b else Y5:=by
 simp[iw,List.getElem?_mapIdx]
theorem Bz (F:List Nat) (bs:List aA):mV (iw F bs) bs:=by
 intro r k hk hn;rw[tV] at hk;cases hb:bs[r]? with
 |none=>simp[hb] at hk
 |some b=>
  simp only[hb,Option.map_some,Option.some.injEq] at hk;split at hk
  ·rw[hk]
  ·subst hk;exact absurd rfl hn
theorem ahS {bs:List aA} {y:SX×List cZ×List Ob×Nat} (h:pV P cfg o ev bs nv=some y):ql P cfg o ev bs nv=some (y.1,aT y.2.1 bs,y.2.2.1,y.2.2.2):=by
 unfold pV at h;unfold ql;split at h
 ·rename_i f args ts d hop hd;split at h
  ·cases h
  ·rename_i hg;split at h
   ·rename_i hf;simp only[hop,hd,if_neg hg,if_pos hf];unfold wT;split at h
    ·rename_i s ay hr
     (try simp only[hr])
     split at h
     ·rename_i l fz ha
      (try simp only[ha])
      split at h
      ·rename_i hc;rw[if_pos hc];obtain rfl:=Option.some.inj h;simp only[DT,o7];rfl
      ·cases h
     ·cases h
    ·cases h
   ·cases h
 ·cases h
theorem ahT {dx bs:List aA} (hb:kC (aX dx) (aX bs)) (hd:∀d,o.dst=some d→dx[d]?=bs[d]?) {y:SX×List cZ×List Ob×Nat} (h:pV P cfg o ev dx nv=some y):pV P cfg o ev bs nv=some y:=by
 unfold pV at h ⊢;split at h
 ·rename_i f args ts d hop hdst;split at h
  ·cases h
  ·rename_i hg;rw[if_neg hg];split at h
   ·rename_i hf;rw[if_pos hf];split at h
    ·rename_i s ay hr;split at h
     ·rename_i l fz ha;rw[BL hb ha];simp only;have:lW bs d=lW dx d:=by unfold lW;rw[hd d hdst]
      rw[this];exact h
     ·cases h
    ·cases h
   ·cases h
 ·cases h
theorem af8 {bs:List aA} {ev':Ev} (h:iJ o.op.operands.toList ev ev'):pV P cfg o ev bs nv=pV P cfg o ev' bs nv:=by
 unfold pV;split
 ·rename_i f args ts d hop hdst;rw[hop] at h;have ha:iJ args.toList ev ev':=fun x hx=>h x (by simp[Op.operands,Call.operands];exact .inr (by simpa using hx));split
  ·rfl
  ·split
   ·split
    ·rw[vO ha]
    ·rfl
   ·rfl
 ·rfl
theorem afx {F:List Nat} {bs:List aA} (hd:∀d,o.dst=some d→F.contains d=true) {y:SX×List cZ×Nat×List Ob} (h:coreC P cfg o pc ev (iw F bs) nv=some y):coreC P cfg o pc ev bs nv=some y:=by
 have hdd:∀d,o.dst=some d→(iw F bs)[d]?=bs[d]?:=by
  intro d e;rw[tV,hd d e];cases bs[d]?<;>rfl
 unfold coreC at h ⊢;split at h
 ·rename_i hc;rw[if_pos hc];split at h
  ·rename_i hp;rw[if_pos hp];cases hw:oM P cfg o ev (iw F bs) with
   |none=>simp[hw] at h
   |some z=>rw[hw] at h;rw[ahR (Bz F bs) hdd hw];exact h
  ·simp at h
 ·rename_i hc;rw[if_neg hc];split at h
  ·rename_i hg;rw[if_pos hg];split at h
   ·rename_i hp;rw[if_pos hp];cases hw:pV P cfg o ev (iw F bs) nv with
    |none=>simp[hw] at h
    |some z=>rw[hw] at h;rw[ahT (Bz F bs).rb hdd hw];exact h
   ·simp at h
  ·rename_i hg;rw[if_neg hg];cases hx:eD P cfg o pc ev (aX (iw F bs)) nv with
   |none=>simp[hx] at h
   |some out=>
    rw[hx] at h;rw[X0 (Bz F bs).rb (fun d e hn=>by unfold gB aX at hn ⊢;rw[hdd d e] at hn;exact hn) hx];exact h
theorem aha {bs:List aA} {x:SX} {cs:List cZ} {n:Nat} {ob:List Ob} (h:coreC P cfg o pc ev bs nv=some (x,cs,n,ob)):core P cfg o pc ev bs nv=some (x,aT cs bs,n,ob):=by
 unfold coreC at h;unfold core;split at h
 ·rename_i hc;rw[if_pos hc];split at h
  ·rename_i hp;rw[if_pos hp];rw[ahQ];cases hw:oM P cfg o ev bs with
   |none=>simp[hw] at h
   |some z=>
    obtain ⟨x',cs',Z5⟩:=z;simp only[hw] at h;simp only[Option.map_some];split at h
    ·rename_i hv;simp at h;obtain ⟨rfl,rfl,rfl,rfl⟩:=h;rw[if_pos hv]
    ·simp at h
  ·simp at h
 ·rename_i hc;rw[if_neg hc];split at h
  ·rename_i hg;rw[if_pos hg];split at h
   ·rename_i hp;rw[if_pos hp];cases hw:pV P cfg o ev bs nv with
    |none=>simp[hw] at h
    |some z=>
     obtain ⟨x',cs',Z5,n'⟩:=z;rw[ahS hw];simp only[hw] at h;simp only;split at h
     ·rename_i hv;simp at h;obtain ⟨rfl,rfl,rfl,rfl⟩:=h;rw[if_pos hv]
     ·simp at h
   ·simp at h
  ·rename_i hg;rw[if_neg hg];cases hx:eD P cfg o pc ev (aX bs) nv with
   |none=>simp[hx] at h
   |some out=>
    simp only[hx] at h ⊢;split at h
    ·rename_i hv;simp at h;obtain ⟨rfl,rfl,rfl,rfl⟩:=h;rw[if_pos hv]
    ·simp at h
theorem Ih {φ:Oper→FP} {ops:List Oper} {S:SS} {y:SS×List Ob} (h:mq P cfg φ ops o S=some y):mU P cfg ops o S=some y:=by
 unfold mq at h;split at h
 ·simp at h
 ·rename_i pc hg;cases hc:coreC P cfg o pc (S.ev P) (iw (φ o).F S.blks) S.nv with
  |none=>simp[hc] at h
  |some z=>
   obtain ⟨x,cs,n,ob⟩:=z;simp only[hc] at h;by_cases hok:(cs.all (uV (φ o))&&CU (φ o) o)=true
   ·rw[if_pos hok] at h;simp only[Bool.and_eq_true] at hok;simp only[Option.some.injEq] at h;subst h;refine Bg.2 ⟨pc,x,_,n,hg,aha (afx (fun d e=>?_) hc),rfl⟩;have:=hok.2;simp only[CU,e] at this;exact this
   ·rw[if_neg hok] at h;cases h
theorem aii (c d:cZ) (h:(match c,d with| .put r _,.put q _=>r≠q| .put r _,.aS q=>r≠q| .aS r,.put q _=>r≠q| .aS _,.aS _=>True)) (bs:List aA):c.run (d.run bs)=d.run (c.run bs):=by
 apply List.ext_getElem?;intro i;cases c with
 |put r b=>cases d with
  |put q b'=>
   simp only[cZ.run];simp only at h;rw[List.set_comm _ _ (fun e=>h e.symm)]
  |aS q=>
   simp only[cZ.run,List.getElem?_set,List.getElem?_modify,List.length_modify];simp only at h;by_cases h1:r=i<;>by_cases h2:q=i<;>simp_all
 |aS r=>cases d with
  |put q b'=>
   simp only[cZ.run,List.getElem?_set,List.getElem?_modify,List.length_modify];simp only at h;by_cases h1:r=i<;>by_cases h2:q=i<;>simp_all
  |aS q=>
   simp only[cZ.run,List.getElem?_modify];by_cases h1:r=i<;>by_cases h2:q=i<;>simp_all
theorem QN (c:cZ):∀(ds:List cZ) (bs:List aA),(∀d∈ds,∀bs,c.run (d.run bs)=d.run (c.run bs))→c.run (aT ds bs)=aT ds (c.run bs)
 | [],bs,_=>rfl
 |d::ds,bs,h=>by
  show c.run (aT ds (d.run bs))=aT ds (d.run (c.run bs));rw[QN c ds (d.run bs) (fun d' hd'=>h d' (by simp[hd'])),h d (by simp) bs]
theorem QO:∀(cs ds:List cZ) (bs:List aA),(∀c∈cs,∀d∈ds,∀bs,c.run (d.run bs)=d.run (c.run bs))→aT cs (aT ds bs)=aT ds (aT cs bs)
 | [],ds,bs,_=>rfl
 |c::cs,ds,bs,h=>by
  show aT cs (c.run (aT ds bs))=aT ds (aT cs (c.run bs));rw[QN c ds bs (h c (by simp)),QO cs ds (c.run bs) (fun c' hc'=>h c' (by simp[hc']))]
theorem wu {a b:List Nat} (h:apart a b=true) {r q:Nat} (hr:r∈a) (hq:q∈b):r≠q:=by
 intro e;subst e;simp only[apart,List.all_eq_true,Bool.not_eq_true'] at h;have:=h r hr;simp[hq] at this
theorem Sg:∀(cs:List cZ) (bs:List aA) (r:Nat),(∀c∈cs,(match c with| .put q _=>q≠r| .aS q=>q≠r))→(aT cs bs)[r]?=bs[r]?
 | [],_,_,_=>rfl
 |c::cs,bs,r,h=>by
  show (aT cs (c.run bs))[r]?=_;rw[Sg cs _ r (fun c' hc'=>h c' (by simp[hc']))];have:=h c (by simp);cases c with
  |put q b=>simp only[cZ.run];exact List.getElem?_set_ne this
  |aS q=>simp only[cZ.run,List.getElem?_modify];simp only at this;simp[this]
theorem TG:∀(cs:List cZ) (bs:List aA) (r:Nat),(∀c∈cs,(match c with| .put q _=>q≠r| .aS _=>True))→aX (aT cs bs) r=aX bs r
 | [],_,_,_=>rfl
 |c::cs,bs,r,h=>by
  show aX (aT cs (c.run bs)) r=_;rw[TG cs _ r (fun c' hc'=>h c' (by simp[hc']))];have:=h c (by simp);cases c with
  |put q b=>simp only[cZ.run,aX];rw[List.getElem?_set_ne this]
  |aS q=>
   simp only[cZ.run,aX,List.getElem?_modify];cases bs[r]? with
   |none=>rfl
   |some k=>by_cases hq:q=r<;>simp[hq]
theorem afw {F:List Nat} {bs bs':List aA} (h:∀r,r∈F→bs'[r]?=bs[r]?) (hl:bs'.length=bs.length):iw F bs'=iw F bs:=by
 apply List.ext_getElem?;intro r;rw[tV,tV];by_cases hr:r∈F
 ·rw[h r hr]
 ·have hc:F.contains r=false:=by simpa using hr
  simp only[hc];by_cases hlt:r<bs.length
  ·rw[List.getElem?_eq_getElem hlt,List.getElem?_eq_getElem (by omega)];rfl
  ·rw[List.getElem?_eq_none (by omega),List.getElem?_eq_none (by omega)]
theorem DC:∀(cs:List cZ) (bs:List aA),(aT cs bs).length=bs.length
 | [],_=>rfl
 |c::cs,bs=>by
  show (aT cs (c.run bs)).length=_;rw[DC cs];cases c<;>simp[cZ.run]
theorem ahC {F:List Nat} {bs bs':List aA} (h:∀r,r∈F→aX bs' r=aX bs r) (hl:bs'.length=bs.length):aX (iw F bs')=aX (iw F bs):=by
 funext r
 unfold aX at h ⊢;rw[tV,tV];by_cases hr:r∈F
 ·have hc:F.contains r=true:=by simpa using hr
  have:=h r hr;simp only[hc,if_true];cases h1:bs'[r]?<;>cases h2:bs[r]?<;>simp[h1,h2] at this ⊢ <;>exact this
 ·have hc:F.contains r=false:=by simpa using hr
  simp only[hc];by_cases hlt:r<bs.length
  ·rw[List.getElem?_eq_getElem hlt,List.getElem?_eq_getElem (by omega)];rfl
  ·rw[List.getElem?_eq_none (by omega),List.getElem?_eq_none (by omega)]
theorem Td {bs:List aA} {ev':Ev} (h:iJ o.op.operands.toList ev ev'):coreC P cfg o pc ev bs nv=coreC P cfg o pc ev' bs nv:=by
 have hw:oM P cfg o ev bs=oM P cfg o ev' bs:=by
  unfold oM;generalize o.op=op at h;cases op<;>simp only[Op.operands] at h<;>(try rfl)
  case store t a x=>
   simp only;rw[h a (by simp),h x (by simp)]
  case call c=>
   obtain ⟨callee,args,ts⟩:=c;have ha:iJ args.toList ev ev':=fun x hx=>h x (by simp[Call.operands];exact .inr (by simpa using hx));cases callee with
   |builtin b=>
    cases b<;>simp only
    ·split
     ·rename_i x y d hl hd;rw[ha x (by simp[hl]),ha y (by simp[hl])]
     ·rfl
    ·split
     ·rename_i x y hl;rw[ha x (by simp[hl]),ha y (by simp[hl])]
     ·rfl
   |value f=>rfl
   |invoke r m=>rfl
  case convert src dst x=>
   simp only;rw[h x (by simp)]
  case mapUpdate t m k x=>
   simp only;rw[h m (by simp),h k (by simp),h x (by simp)]
  case next it b=>
   cases b with
   |true=>simp only;rw[h it (by simp)]
   |false=>rfl
 unfold coreC;rw[hw,UR h,af8 h]
theorem Te {F:List Nat} {bs:List aA} {cs:List cZ} {kD:Nat} (hput:∀c∈cs,∀r∈F,(match c with| .put q _=>q≠r| .aS q=>Av cfg o=true→q≠r)) (hn:kD=nv∨tu cfg o=false):
  coreC P cfg o pc ev (iw F (aT cs bs)) kD=coreC P cfg o pc ev (iw F bs) nv:=by
 unfold coreC;have same:Av cfg o=true→iw F (aT cs bs)=iw F bs:=fun hw=>by
  refine afw (fun r hr=>Sg cs bs r fun c hc=>?_) (DC cs bs);have:=hput c hc r hr;cases c with
  |put q b=>exact this
  |aS q=>exact this hw
 by_cases hw:cls cfg o= .W
 ·rw[if_pos hw,if_pos hw,same (by simp[Av,hw])]
 ·by_cases hg:cls cfg o= .G
  ·have oQ:kD=nv:=by
    rcases hn with h|h
    ·exact h
    ·simp[tu,hg] at h
   rw[if_neg hw,if_neg hw,if_pos hg,if_pos hg,same (by simp[Av,hg]),oQ]
  ·have e:aX (iw F (aT cs bs))=aX (iw F bs):=by
    refine ahC (fun r hr=>TG cs bs r fun c hc=>?_) (DC cs bs);have:=hput c hc r hr;cases c with
    |put q b=>exact this
    |aS q=>trivial
   rw[if_neg hw,if_neg hw,if_neg hg,if_neg hg,e];have e2:eD P cfg o pc ev (aX (iw F bs)) kD=eD P cfg o pc ev (aX (iw F bs)) nv:=by
    rcases hn with h|h
    ·rw[h]
    ·exact Cj (by simp[tu] at h;exact h.1)
   rw[e2]
def lu (b:RB):Option (Sh×aM):=match b with|⟨.row s _,p⟩=>some (s,p)|_=>none
theorem UH {rb bV:Rb} (h:∀r,(rb r).bind lu=(bV r).bind lu) (r:Nat):(rowOf rb pc r).map (·.1)=(rowOf bV pc r).map (·.1):=by
 have h:=h r;have key:∀rb:Rb,(rowOf rb pc r).map (·.1)=((rb r).bind lu).bind fun y=>if rU y.2 pc then some y.1 else none:=by
  intro rb;unfold rowOf;cases rb r with
  |none=>rfl
  |some k=>
   obtain ⟨lb,p⟩:=k;cases lb with
   |row s e=>
    simp only[lu,Option.bind_some];split<;>rfl
   |_=>rfl
 rw[key,key,h]
theorem agh {rb bV:Rb} (h:∀r,(rb r).bind lu=(bV r).bind lu) (t:TypeId) (x:Option SX) (i:Option (IntKind×E)):rZ P rb pc t x i=rZ P bV pc t x i:=by
 unfold rZ;cases mQ P t with
 |none=>rfl
 |some et=>
  cases x with
  |none=>rfl
  |some x=>
   cases i with
   |none=>cases x<;>first|rfl|(rename_i sh _;cases sh<;>rfl)
   |some i=>
    cases x with
    |dat sh e=>cases sh<;>rfl
    |full r n=>
     have h1:=UH (pc:=pc) h r;simp only;cases h2:rowOf rb pc r<;>cases h3:rowOf bV pc r<;>simp only[h2,h3,Option.map_none,Option.map_some,reduceCtorEq,Option.some.injEq] at h1 ⊢;rw[h1]
    |view r off n=>
     have h1:=UH (pc:=pc) h r;simp only;cases h2:rowOf rb pc r<;>cases h3:rowOf bV pc r<;>simp only[h2,h3,Option.map_none,Option.map_some,reduceCtorEq,Option.some.injEq] at h1 ⊢;rw[h1]
    |_=>rfl
theorem V7 {bs bs':List aA} {kD:Nat} (ho:Gi o=true) (h:∀r,(aX bs' r).bind lu=(aX bs r).bind lu):coreC P cfg o pc ev bs' kD=coreC P cfg o pc ev bs nv:=by
 unfold Gi at ho;split at ho
 ·rename_i t x i hop;have hc:cls cfg o= .R:=by simp[cls,hop]
  unfold coreC;simp only[hc,reduceCtorEq,if_false,eD,iX,pU,hop,agh h]
 ·cases ho
theorem Tx {bs:List aA} {y:SX×List cZ×Nat×List Ob} (ho:Gh o=true) (h:coreC P cfg o pc ev bs nv=some y):∃(f:List Nat) (r:Nat) (k k':aA),y.2.1=f.map .aS++ [.put r k']∧bs[r]?=some k∧k.lb≠ .none∧lu ⟨k'.lb,k'.bG⟩=lu ⟨k.lb,k.bG⟩:=by
 unfold Gh at ho;split at ho
 ·rename_i t a x hop;have hc:cls cfg o= .W:=by simp[cls,hop]
  unfold coreC at h;rw[if_pos hc] at h;split at h
  ·have key:∀cs,qI P bs t (ev [] a 0) (ev [] x t)=some cs→∃(f:List Nat) (r:Nat) (k k':aA),cs=f.map .aS++ [.put r k']∧bs[r]?=some k∧k.lb≠ .none∧lu ⟨k'.lb,k'.bG⟩=lu ⟨k.lb,k.bG⟩:=by
    intro cs hs;unfold qI at hs;split at hs
    ·split at hs
     ·split at hs
      ·rename_i hb;unfold Bl at hs;split at hs
       ·split at hs
        ·split at hs
         ·split at hs
          ·simp at hs;exact ⟨_,_,_,_,hs.symm,hb,by simp,rfl⟩
          ·simp at hs
         ·split at hs
          ·simp at hs;exact ⟨_,_,_,_,hs.symm,hb,by simp,rfl⟩
          ·simp at hs
        ·simp at hs
       ·simp at hs
      ·rename_i hb;unfold Bo at hs;split at hs
       ·split at hs
        ·simp at hs;exact ⟨[],_,_,_,hs.symm,hb,by simp,rfl⟩
        ·simp at hs
       ·split at hs
        ·split at hs
         ·simp at hs;exact ⟨[],_,_,_,hs.symm,hb,by simp,rfl⟩
         ·simp at hs
        ·simp at hs
       ·simp at hs
      ·simp at hs
     ·simp at hs
    ·simp at hs
   simp only[oM,hop] at h;cases hs:qI P bs t (ev [] a 0) (ev [] x t) with
   |none=>simp[hs] at h
   |some cs=>
    simp only[hs] at h;split at h
    ·simp at h;subst h;exact key cs hs
    ·simp at h
  ·simp at h
 ·cases ho
theorem Uy {F:List Nat} {bs:List aA} {f:List Nat} {r:Nat} {k k':aA} (hk:bs[r]?=some k) (hs:lu ⟨k'.lb,k'.bG⟩=lu ⟨k.lb,k.bG⟩):
  ∀q,(aX (iw F (aT (f.map .aS++ [.put r k']) bs)) q).bind lu=(aX (iw F bs) q).bind lu:=by
 intro q;unfold aX;rw[tV,tV,DT];have e1:aT [cZ.put r k'] (aT (f.map .aS) bs)=(aT (f.map .aS) bs).set r k':=rfl;rw[e1];have hfr:∀q,aX (aT (f.map .aS) bs) q=aX bs q:=fun q=>by rw[EO]
 have hlen:(aT (f.map .aS) bs).length=bs.length:=DC _ _;have hr:r<bs.length:=(List.getElem?_eq_some_iff.1 hk).1;by_cases hq:r=q
 ·subst hq;rw[List.getElem?_set_self (by omega),hk];cases F.contains r<;>simp[hs]
 ·rw[List.getElem?_set_ne hq];have:=hfr q;unfold aX at this;cases h1:(aT (f.map .aS) bs)[q]? with
  |none=>cases h2:bs[q]? with
   |none=>rfl
   |some y=>simp[h1,h2] at this
  |some x=>cases h2:bs[q]? with
   |none=>simp[h1,h2] at this
   |some y=>
    simp only[h1,h2,Option.some.injEq,RB.mk.injEq] at this;simp only[Option.map_some];cases F.contains q<;>simp[this.1,this.2]
theorem Et {φ:Oper→FP} {ops:List Oper} {S S':SS} {obs:List Ob}:mq P cfg φ ops o S=some (S',obs)↔
  ∃pc x cs n,og S ops o=some pc∧coreC P cfg o pc (S.ev P) (iw (φ o).F S.blks) S.nv=some (x,cs,n,obs)∧cs.all (uV (φ o))=true∧CU (φ o) o=true∧
   S'= {tmps:=bP S.tmps o.dst ⟨pc,x⟩,blks:=aT cs S.blks,nv:=S.nv+n}:=by
 unfold mq;cases hg:og S ops o with
 |none=>simp
 |some pc=>
  simp only[Option.some.injEq];cases hc:coreC P cfg o pc (S.ev P) (iw (φ o).F S.blks) S.nv with
  |none=>
   simp;intro _ _ _ h;simp[hc] at h
  |some z=>
   obtain ⟨x,cs,n,ob⟩:=z;simp only;by_cases hok:(cs.all (uV (φ o))&&CU (φ o) o)=true
   ·rw[if_pos hok];simp only[Bool.and_eq_true] at hok;constructor
    ·intro h;simp only[Option.some.injEq,Prod.mk.injEq] at h;obtain ⟨rfl,rfl⟩:=h;exact ⟨pc,x,cs,n,rfl,hc,hok.1,hok.2,rfl⟩
    ·rintro ⟨_,_,_,_,rfl,h,_,_,rfl⟩;rw[hc] at h;simp only[Option.some.injEq,Prod.mk.injEq] at h;obtain ⟨rfl,rfl,rfl,rfl⟩:=h;rfl
   ·rw[if_neg hok];constructor
    ·intro h;cases h
    ·rintro ⟨_,_,_,_,rfl,h,h1,h2,_⟩;rw[hc] at h;simp only[Option.some.injEq,Prod.mk.injEq] at h;obtain ⟨rfl,rfl,rfl,rfl⟩:=h;exact absurd (by rw[h1,h2];rfl) hok
theorem tY {φ:Oper→FP} {ops:List Oper} {S S':SS} {obs:List Ob} (h:mq P cfg φ ops o S=some (S',obs)):S'.nv=S.nv+(obs.map Ob.vars).sum:=o9 (Ih h)
theorem Eo {bs:List aA} {x:SX} {cs:List cZ} {n:Nat} {ob:List Ob} (h:coreC P cfg o pc ev bs nv=some (x,cs,n,ob)) (hc:tu cfg o=false):n=0:=by
 have hb:cls cfg o≠ .call∧cls cfg o≠ .G:=by simpa [tu] using hc
 unfold coreC at h;split at h
 ·split at h
  ·split at h
   ·split at h
    ·simp at h;exact h.2.2.1.symm
    ·simp at h
   ·simp at h
  ·simp at h
 ·split at h
  ·rename_i hg;exact absurd hg hb.2
  ·split at h
   ·rename_i out hx;split at h
    ·simp at h;rw[←h.2.2.1];exact (wE hx).1 hb.1
    ·simp at h
   ·simp at h
theorem afN {φ:Oper→FP} {ops:List Oper} {a x:Oper} {S S1 S2:SS} {iQ gF:List Ob} (hi:Cm cfg φ ops a x=true) (h1:mq P cfg φ ops a S=some (S1,iQ)) (h2:mq P cfg φ ops x S1=some (S2,gF)):
  ∃qw,mq P cfg φ ops x S=some (qw,gF)∧mq P cfg φ ops a qw=some (S2,iQ)∧(dX iQ=0∨dX gF=0):=by
 have hv1:=tY h1;have hv2:=tY h2;obtain ⟨pc,x1,cs1,n1,hg,hc1,hm1,hd1,rfl⟩:=Et.1 h1;obtain ⟨pc',x2,cs2,n2,hg',hc2,hm2,hd2,rfl⟩:=Et.1 h2;simp only[Cm,Bool.and_eq_true,Bool.or_eq_true,Bool.not_eq_true'] at hi;obtain ⟨hi1,hi2,e1,e2,e3,e4,e5,e6,e7,e8⟩:=hi;have hlx:∀t∈looks ops x,a.dst≠some t:=by
  intro t ht e;rw[e] at hi1;simp at hi1;exact hi1.1 ht
 have hdd:∀d,a.dst=some d→x.dst≠some d:=by
  intro d e;rw[e] at hi1;simp at hi1;exact hi1.2
 have hla:∀t∈looks ops a,x.dst≠some t:=by
  intro t ht e;rw[e] at hi2;simp at hi2;exact hi2 ht
 have ax:∀t∈looks ops x,(bP S.tmps a.dst ⟨pc,x1⟩)[t]?=S.tmps[t]?:=fun t ht=>Es (hlx t ht);have aa:∀t∈looks ops a,(bP S.tmps x.dst ⟨pc',x2⟩)[t]?=S.tmps[t]?:=fun t ht=>Es (hla t ht);rw[Dy (S:=S) ax] at hg';rw[Td (EU (S:=S) ax)] at hc2;simp only[List.all_eq_true] at hm1 hm2;have Z9:∀c∈cs1,(match c with| .put r _=>r∈(φ a).W| .aS r=>r∈(φ a).Z):=by
  intro c hc;have:=hm1 c hc;cases c with
  |put r b=>simpa [uV] using this
  |aS r=>simpa [uV] using this
 have Z8:∀c∈cs2,(match c with| .put r _=>r∈(φ x).W| .aS r=>r∈(φ x).Z):=by
  intro c hc;have:=hm2 c hc;cases c with
  |put r b=>simpa [uV] using this
  |aS r=>simpa [uV] using this
 have hn:n1=0∨n2=0:=by
  rcases e8 with h|h
  ·exact .inl (Eo hc1 h)
  ·exact .inr (Eo hc2 h)
 have hx:coreC P cfg x pc' (S.ev P) (iw (φ x).F S.blks) S.nv=some (x2,cs2,n2,gF):=by
  rw[←hc2];rcases e1 with e1|e1;rotate_left
  ·obtain ⟨f,r,k,k',q1,q2,q3,q4⟩:=Tx e1.1 hc1;simp only at q1;subst q1;exact (V7 e1.2 (Uy (Bz _ _ r k q2 q3) q4)).symm
  refine (Te (fun c hc r hr=>?_) ?_).symm
  ·have:=Z9 c hc;cases c with
   |put q b=>exact wu e1 this hr
   |aS q=>
    intro hw;rcases e6 with h|h
    ·rw[h] at hw;cases hw
    ·exact wu h this hr
  ·cases hcx:tu cfg x with
   |true=>
    left;have:n1=0:=by
     rcases e8 with h|h
     ·exact Eo hc1 h
     ·rw[h] at hcx;cases hcx
    simp[this]
   |false=>exact .inr rfl
 refine ⟨{tmps:=bP S.tmps x.dst ⟨pc',x2⟩,blks:=aT cs2 S.blks,nv:=S.nv+n2},Et.2 ⟨pc',x2,cs2,n2,hg',hx,by simpa [List.all_eq_true] using hm2,hd2,rfl⟩,
  Et.2 ⟨pc,x1,cs1,n1,?_,?_,by simpa [List.all_eq_true] using hm1,hd1,?_⟩,?_⟩
 ·rw[Dy (S:=S) aa];exact hg
 ·rw[Td (EU (S:=S) aa),←hc1];rcases e2 with e2|e2;rotate_left
  ·obtain ⟨f,r,k,k',q1,q2,q3,q4⟩:=Tx e2.1 hx;simp only at q1;subst q1;exact V7 e2.2 (Uy (Bz _ _ r k q2 q3) q4)
  refine Te (fun c hc r hr=>?_) ?_
  ·have:=Z8 c hc;cases c with
   |put q b=>exact wu e2 this hr
   |aS q=>
    intro hw;rcases e7 with h|h
    ·rw[h] at hw;cases hw
    ·exact wu h this hr
  ·cases hca:tu cfg a with
   |true=>
    left;have:n2=0:=by
     rcases e8 with h|h
     ·rw[h] at hca;cases hca
     ·exact Eo hc2 h
    simp[this]
   |false=>exact .inr rfl
 ·rw[SS.mk.injEq];refine ⟨UL hdd,?_,by simp only;omega⟩;refine (QO cs1 cs2 S.blks fun c hc d hd bs=>aii c d ?_ bs).symm;have i1:=Z9 c hc;have i2:=Z8 d hd;cases c with
  |put r b=>cases d with
   |put q b'=>exact wu e3 i1 i2
   |aS q=>exact wu e4 i1 i2
  |aS r=>cases d with
   |put q b'=>exact fun e=>wu e5 i2 i1 e.symm
   |aS q=>trivial
 ·simp only[dX] at*;rcases hn with h|h
  ·left;omega
  ·right;omega
theorem UE {ρ:List C} {φ:Oper→FP} {ops:List Oper} {x:Oper} {post:List Oper}:∀ {pre:List Oper} {S S':SS} {obs:List Ob},(∀a∈pre,Cm cfg φ ops a x=true)→
  oH (mq P cfg φ ops) (pre++x::post) S=some (S',obs)→bY P ρ S.nv obs→
  ∃S1 iQ gF,mq P cfg φ ops x S=some (S1,iQ)∧oH (mq P cfg φ ops) (pre++post) S1=some (S',gF)∧bY P ρ S.nv iQ∧bY P ρ S1.nv gF
 | [],S,S',obs,_,h,ho=>by
  simp only[List.nil_append,oH] at h;split at h
  ·simp at h
  ·rename_i S1 iQ h1;split at h
   ·simp at h
   ·rename_i S2 gF h2;simp at h;obtain ⟨rfl,rfl⟩:=h;rw[oZ] at ho;exact ⟨S1,iQ,gF,h1,h2,ho.1,by rw[tY h1];exact ho.2⟩
 |a::pre,S,S',obs,hi,h,ho=>by
  simp only[List.cons_append,oH] at h;split at h
  ·simp at h
  ·rename_i Sa LK ha;split at h
   ·simp at h
   ·rename_i S2 gF h2;simp at h;obtain ⟨rfl,rfl⟩:=h;rw[oZ] at ho;obtain ⟨S3,LP,LM,h3,h4,ho3,LW⟩:=UE (fun a' ha'=>hi a' (by simp[ha'])) h2 (by rw[tY ha];exact ho.2);obtain ⟨qw,e1,e2,e3⟩:=afN (hi a (by simp)) ha h3;have n1:=tY ha;have n2:=tY h3;have n3:=tY e1;have n4:=tY e2;simp only[dX] at e3;refine ⟨qw,LP,LK++LM,e1,?_,?_,?_⟩
    ·simp only[List.cons_append,oH,e2,h4]
    ·rcases e3 with e|e
     ·rw[show S.nv=Sa.nv by omega];exact ho3
     ·exact DX _ _ _ e ho3
    ·rw[oZ];refine ⟨?_,by rw[←n4];exact LW⟩;rcases e3 with e|e
     ·exact DX _ _ _ e ho.1
     ·rw[show qw.nv=S.nv by omega];exact ho.1
theorem Sd {φ:Oper→FP} {ops:List Oper}:∀ {l:List Oper} {S:SS} {y:SS×List Ob},oH (mq P cfg φ ops) l S=some y→jo P cfg ops l S=some y
 | [],_,_,h=>h
 |o::l,S,y,h=>by
  simp only[oH] at h;split at h
  ·simp at h
  ·rename_i S1 iQ h1;split at h
   ·simp at h
   ·rename_i S2 gF h2;simp only[jo,Ih h1,Sd h2];exact h
end
section
variable {P:Program} {cfg:bU} {N0:Nat→Prop} {w0:Wb} {ρ:List C} {Q:Exit→Act→World→Prop}
theorem agt {ops:List Oper} {φ:Oper→FP} (hback:KN ops=true) (Co:VD cfg φ ops (mZ ops [])=true) {S':SS} (hq:∀a' w',(∃hv',aG P N0 w0 ρ S' hv' a' w')→Q .normal a' w'):
  ∀(fuel:Nat) (listed:Array Bool) (S:SS) (hv:Nat→Value) (a:Act) (w:World) (obs:List Ob),aG P N0 w0 ρ S hv a w→
   oH (mq P cfg φ ops) (rem listed 0 ops) S=some (S',obs)→bY P ρ S.nv obs→listed.size=ops.length→(rem listed 0 ops).length≤fuel→
   (∀i,listed.getD i false=true→∀j,((mZ ops []).getD i 0).testBit j=true→listed.getD j false=true)→wpAny P .any ops.toArray Q fuel listed a w:=by
 have hgd:∀(listed:Array Bool) (i:Nat),listed.size=ops.length→i<ops.length→listed.getD i true=listed.getD i false:=by
  intro listed i h1 h2;have:i<listed.size:=by omega
  simp[Array.getD,this]
 have hnil:∀listed:Array Bool,listed.size=ops.length→Region.ready .any ops.toArray listed=[]→rem listed 0 ops=[]:=by
  intro listed hs hr;apply WG;intro j hj;rw[Nat.zero_add];induction j using Nat.strongRecOn with
  |_ j ih=>
   cases hb:listed.getD j true with
   |true=>rfl
   |false=>
    exfalso;have hm:j∈Region.ready .any ops.toArray listed:=by
     rw[mem_ready];refine ⟨hb,ops[j],by simp[hj],fun e he hbe=>?_⟩;have h1:=yG hback (List.getElem?_eq_getElem hj);simp only[List.all_eq_true] at h1;have h2:=h1 e (by simpa using he);simp[hbe] at h2;rw[←hgd listed e.on hs (by omega)];exact ih e.on h2 (by omega)
    rw[hr] at hm;cases hm
 intro fuel;induction fuel with
 |zero=>
  intro listed S hv a w obs hrel hrun ho hs hf hcl;have h0:rem listed 0 ops=[]:=List.length_eq_zero_iff.1 (by omega);refine ⟨?_,?_⟩
  ·cases hr:Region.ready .any ops.toArray listed with
   |nil=>rfl
   |cons i r=>
    have hm:i∈Region.ready .any ops.toArray listed:=by rw[hr];simp
    obtain ⟨h1,o,h2,_⟩:=mem_ready.1 hm;rw[Bt (listed:=listed) (l:=ops) (k:=0) (i:=i) (x:=o) (by simpa using h2) (by simpa using h1)] at h0;simp at h0
  ·rw[h0] at hrun;simp[oH] at hrun;obtain ⟨rfl,rfl⟩:=hrun;exact hq a w ⟨hv,hrel⟩
 |succ fuel ih=>
  intro listed S hv a w obs hrel hrun ho hs hf hcl;refine ⟨fun hr=>?_,fun i hi=>?_⟩
  ·rw[hnil listed hs hr] at hrun;simp[oH] at hrun;obtain ⟨rfl,rfl⟩:=hrun;exact hq a w ⟨hv,hrel⟩
  ·obtain ⟨h1,x,h2,hall⟩:=mem_ready.1 hi;have hx:ops[i]?=some x:=by simpa using h2
   have hlt:i<ops.length:=(List.getElem?_eq_some_iff.1 hx).1;have Di:∀j,((mZ ops []).getD i 0).testBit j=true→listed.getD j false=true:=by
    intro j hj;obtain ⟨e,he,hb,h3⟩:=Jr ops [] i x j hx (by simpa using hj);have hl:=hall e (by simpa using he) hb;rcases h3 with rfl|h3
    ·exact hl
    ·exact hcl e.on hl j h3
   have hsp:=Bt (listed:=listed) (l:=ops) (k:=0) (i:=i) (x:=x) hx (by simpa using h1);have hst:=JX (listed:=listed) (l:=ops) (k:=0) (i:=i) (x:=x) hx (by simpa using h1) (by omega);rw[Nat.zero_add] at hst hsp;rw[hsp] at hrun;have Ls:∀b∈rem listed 0 (ops.take i),Cm cfg φ ops b x=true:=by
    intro b hb;obtain ⟨j,hj,hjl⟩:=BP hb;rw[Nat.zero_add] at hjl;rw[List.getElem?_take] at hj;split at hj
    ·rename_i hji;have h3:=yG (yG Co hx) hj;simp only[Bool.or_eq_true,Bool.not_eq_true',decide_eq_false_iff_not] at h3;rcases h3 with (h3|h3)|h3
     ·exact absurd hji h3
     ·have:=Di j h3;rw[←hgd listed j hs (by omega),hjl] at this;cases this
     ·exact h3
    ·cases hj
   obtain ⟨S1,iQ,gF,e1,e2,o1,o2⟩:=UE Ls hrun ho;have next:∀a' w',(∃hv',aG P N0 w0 ρ S1 hv' a' w')→wpAny P .any ops.toArray Q fuel (listed.setIfInBounds i true) a' w':=by
    rintro a' w' ⟨hv',hr'⟩;refine ih _ S1 hv' a' w' gF hr' (by rw[hst];exact e2) o2 (by simpa using hs) ?_ ?_
    ·rw[hst];rw[hsp] at hf;simp at hf ⊢;omega
    ·intro q hq' j hj;by_cases hqi:i=q
     ·subst hqi;exact getD_set_true (Di j hj)
     ·rw[getD_set_ne false hqi] at hq';exact getD_set_true (hcl q hq' j hj)
   unfold wpOp;simp only[h2];have hss:=Iu (Q:=Q) hrel (Ih e1) o1;split
   ·rename_i hw;rw[if_pos hw] at hss;exact .inl (Oper.wp_mono next hss)
   ·rename_i hw;rw[if_neg hw] at hss;exact next _ _ hss
theorem adF {id:Nat} {ops:Array Oper} {draw:Bool} {S S':SS} {hv:Nat→Value} {a:Act} {w:World} {obs:List Ob} (hrel:aG P N0 w0 ρ S hv a w)
  (hd:(draw&& !(tZ P cfg ops.toList||I7 P cfg ops.toList S))=false) (h:jo P cfg ops.toList ops.toList S=some (S',obs)) (ho:bY P ρ S.nv obs)
  (hq:∀a' w',(∃hv',aG P N0 w0 ρ S' hv' a' w')→Q .normal a' w'):(Code.region id ops draw).wp P Q a w:=by
 by_cases hr:(draw&& !tZ P cfg ops.toList)=false
 ·exact Q8 hrel hr h ho hq
 ·cases draw with
  |false=>simp at hr
  |true=>
   simp at hr;simp[hr] at hd;unfold I7 at hd;simp only[Bool.and_eq_true] at hd;obtain ⟨hm,hback,Co,hsome⟩:=hd;obtain ⟨y,hy⟩:=Option.isSome_iff_exists.1 hsome;have hy2:=Sd hy;rw[h] at hy2;injection hy2 with hy2;subst hy2;refine wp_region_any hm ?_;have key:∀(l:List Oper) (k n:Nat),k+l.length≤n→rem (Array.replicate n false) k l=l:=by
    intro l;induction l with
    |nil=>intros;rfl
    |cons o l ih=>
     intro k n hk;simp at hk;have:(Array.replicate n false).getD k true=false:=by simp[Array.getD,show k<n by omega]
     simp only[rem,this];rw[ih (k+1) n (by omega)];simp
   have hk:=key ops.toList 0 ops.size (by simp);have:=agt (Q:=Q) hback Co hq ops.size (Array.replicate ops.size false) S hv a {w with drawn:=w.drawn+1} obs (hrel.drew _) (by rw[hk];exact hy) ho (by simp) (by rw[hk];simp)
    (fun i hi=>by exfalso;by_cases hlt:i<ops.size<;>simp[Array.getD,hlt] at hi)
   simpa using this
end
end Go.Vc
namespace Go.Vc
section
variable {P:Program} {N0:Nat→Prop} {w0:Wb} {ρ ρ':List C} {S:SS} {hv:Nat→Value} {a:Act} {w:World} {N:Nat→Prop} {bs:List aA}
def mD (n:Nat) (ρ ρ':List C):Prop:=∀e:E,e.bd n=true→e.eval ρ'=e.eval ρ
theorem mD.app (ρ σ:List C):mD ρ.length ρ (ρ++σ):=fun e h=>E.aia ρ σ e h
theorem mD.bG {n:Nat} (h:mD n ρ ρ') {p:aM} (hp:qJ n p=true):aR ρ' p↔aR ρ p:=by
 unfold qJ at hp;rw[List.all_eq_true] at hp;exact ⟨fun H x hx=>by rw[←h _ (hp x hx)];exact H x hx,fun H x hx=>by rw[h _ (hp x hx)];exact H x hx⟩
theorem mD.args {n:Nat} (h:mD n ρ ρ') {l:List (Sh×E)} (hl:l.all (fun x=>x.2.bd n)=true):dI ρ' l=dI ρ l:=by
 rw[List.all_eq_true] at hl;exact List.map_congr_left fun x hx=>by rw[h _ (hl x hx)]
def sJ (n:Nat) (bs:List aA):Prop:=∀(r:Nat) (k:aA),bs[r]?=some k→qJ n k.bG=true∧k.lb.bd n=true
theorem sJ.row {n:Nat} (h:sJ n bs) {r:Nat} {s:Sh} {e:E} {p:aM} (hr:bK bs r=some (s,e,p)):qJ n p=true∧e.bd n=true:=by
 unfold bK at hr;split at hr
 ·rename_i hk;simp at hr;obtain ⟨rfl,rfl,rfl⟩:=hr;exact h r _ hk
 ·simp at hr
theorem sJ.box {n:Nat} (h:sJ n bs) {r:Nat} {cs:List SX} {p:aM} (hr:eu bs r=some (cs,p)):qJ n p=true:=by
 unfold eu at hr;split at hr
 ·rename_i hk;simp at hr;obtain ⟨rfl,rfl⟩:=hr;exact (h r _ hk).1
 ·simp at hr
theorem bn.env {n:Nat} (h:mD n ρ ρ') (hb:sJ n bs) {x:SX} (hx:x.bd n=true) {v:Value} (H:bn w N ρ bs hv x v):bn w N ρ' bs hv x v:=by
 cases x with
 |none=>trivial
 |dat s e=>simp only[SX.bd] at hx;simp only[bn] at H ⊢;rw[h e hx];exact H
 |res l=>simp only[SX.bd] at hx;simp only[bn] at H ⊢;rw[h.args hx];exact H
 |uZ r m l=>
  simp only[SX.bd,Bool.and_eq_true] at hx;obtain ⟨H1,v1,vr,H2,H3,H4,H5⟩:=H;refine ⟨H1,v1,vr,H2,fun s e p hr hp=>?_,by rw[h.args hx.2];exact H4,H5⟩;obtain ⟨h1,h2⟩:=hb.row hr;rw[h m hx.1,h e h2];exact H3 s e p hr ((h.bG h1).1 hp)
 |full r m=>
  simp only[SX.bd] at hx;refine ⟨H.1,fun s e p hr hp=>?_⟩;obtain ⟨h1,h2⟩:=hb.row hr;rw[h m hx,h e h2];exact H.2 s e p hr ((h.bG h1).1 hp)
 |view r off m=>
  simp only[SX.bd,Bool.and_eq_true] at hx;refine ⟨H.1,fun s e p hr hp=>?_⟩;obtain ⟨h1,h2⟩:=hb.row hr;rw[h off hx.1,h m hx.2,h e h2];exact H.2 s e p hr ((h.bG h1).1 hp)
 |ref r i fo s bN=>
  simp only[SX.bd] at hx;refine ⟨H.1,fun es e p hr hp=>?_,fun cs p hr hp=>?_⟩
  ·obtain ⟨h1,h2⟩:=hb.row hr;rw[h i hx,h e h2];exact H.2.1 es e p hr ((h.bG h1).1 hp)
  ·exact H.2.2 cs p hr ((h.bG (hb.box hr)).1 hp)
 |ptr s e=>simp only[SX.bd] at hx;simp only[bn] at H ⊢;rw[h e hx];exact H
 |fn f=>exact H
 |xC e=>simp only[SX.bd] at hx;simp only[bn] at H ⊢;rw[h e hx];exact H
 |qZ t s n=>exact H
 |oP r=>exact H
 |rF r=>exact H
 |sS s p=>simp only[SX.bd,Bool.and_eq_true] at hx;simp only[bn] at H ⊢;rw[h s hx.1,h p hx.2];exact H
 |okF=>exact H
theorem dN.env {n:Nat} (h:mD n ρ ρ') (hb:sJ n bs):∀ {l:List SX} {vs:List Value},l.all (·.bd n)=true→dN w N ρ bs hv l vs→dN w N ρ' bs hv l vs
 | [],_,_,H=>H
 |x::l,_,hl,⟨v,r,h1,h2,h3⟩=>by
  simp only[List.all_cons,Bool.and_eq_true] at hl;exact ⟨v,r,h1,h2.env h hb hl.1,dN.env h hb hl.2 h3⟩
theorem mE.env {n:Nat} {B:Nat→Prop} (h:mD n ρ ρ') (hb:sJ n bs) {r:Nat} {lb:LB} (hl:lb.bd n=true) (H:mE w B N ρ bs hv r lb):mE w B N ρ' bs hv r lb:=by
 cases lb with
 |none=>trivial
 |dead=>trivial
 |row s e=>simp only[LB.bd] at hl;simp only[mE] at H ⊢;rw[h e hl];exact H
 |box cs=>
  simp only[LB.bd] at hl;obtain ⟨g,bt,arr,h1,h2,h3,h4⟩:=H;exact ⟨g,bt,arr,h1,h2,h3,h4.env h hb hl⟩
 |mp k s e=>simp only[LB.bd] at hl;simp only[mE] at H ⊢;rw[h e hl];exact H
 |sit s p=>simp only[LB.bd,Bool.and_eq_true] at hl;simp only[mE] at H ⊢;rw[h s hl.1,h p hl.2];exact H
theorem NN.env {n:Nat} {B:Nat→Prop} (h:mD n ρ ρ') (hb:sJ n bs):NN N0 B ρ' bs hv=NN N0 B ρ bs hv:=by
 funext b
 apply propext;constructor
 ·exact fun H=>⟨H.1,fun r k hr hl hf hp=>H.2 r k hr hl hf ((h.bG (hb r k hr).1).2 hp)⟩
 ·exact fun H=>⟨H.1,fun r k hr hl hf hp=>H.2 r k hr hl hf ((h.bG (hb r k hr).1).1 hp)⟩
theorem SS.Kn {n:Nat} (h:S.bd n=true) {t:Nat} {ts:TS} (ht:S.tmps[t]?=some ts):qJ n ts.bG=true∧ts.sx.bd n=true:=by
 simp only[SS.bd,Bool.and_eq_true,List.all_eq_true] at h;exact h.1 ts (List.mem_of_getElem? ht)
theorem SS.Ko {n:Nat} (h:S.bd n=true):sJ n S.blks:=by
 simp only[SS.bd,Bool.and_eq_true,List.all_eq_true] at h;exact fun r k hk=>h.2 k (List.mem_of_getElem? hk)
theorem aG.env {n:Nat} (h:mD n ρ ρ') (hb:S.bd n=true) (H:aG P N0 w0 ρ S hv a w):aG P N0 w0 ρ' S hv a w:=by
 have hbs:=SS.Ko hb;refine ⟨H.defers,H.sN,H.below,fun t ts ht hp=>?_,fun t ts ht hp=>?_,fun r k hr hp=>?_,fun r r' k k' g hr hr' hne hl hl' hp hp'=>?_⟩
 ·obtain ⟨h1,h2⟩:=SS.Kn hb ht;rw[NN.env h hbs];exact (H.tmps t ts ht ((h.bG h1).1 hp)).env h hbs h2
 ·exact H.und t ts ht fun hq=>hp ((h.bG (SS.Kn hb ht).1).2 hq)
 ·rw[NN.env h hbs];exact (H.blks r k hr ((h.bG (hbs r k hr).1).1 hp)).env h hbs (hbs r k hr).2
 ·exact H.dist r r' k k' g hr hr' hne hl hl' ((h.bG (hbs r k hr).1).1 hp) ((h.bG (hbs r' k' hr').1).1 hp')
theorem DW {Post:List (Sh×C)→Prop} {Bs:List (List C→Prop)} {k:VC}:∀ {obs:List Ob} {ρ:List C},zQ ρ.length obs=true→(CO obs k).holds P Post Bs ρ→
  ∃σ,bY P (ρ++σ) ρ.length obs∧k.holds P Post Bs (ρ++σ)∧σ.length=dX obs
 | [],ρ,_,h=>⟨[],trivial,by rw[List.append_nil];exact h,rfl⟩
 | .ah p e::l,ρ,hb,h=>by
  simp only[zQ,Ob.bd,Ob.vars,Nat.add_zero,Bool.and_eq_true] at hb;obtain ⟨h1,h2⟩:=h;obtain ⟨σ,e1,e2,e3⟩:=DW (obs:=l) hb.2 h2;refine ⟨σ,⟨fun hp=>?_,e1⟩,e2,by simpa [dX,Ob.vars] using e3⟩;have Df:=mD.app ρ σ;rw[Df e hb.1.2];exact h1 ((Df.bG hb.1.1).1 hp)
 | .call p f args ay::l,ρ,hb,h=>by
  simp only[zQ,Ob.bd,Ob.vars,Bool.and_eq_true] at hb;obtain ⟨res,h0,h1,h2⟩:=h;obtain ⟨σ,e1,e2,e3⟩:=DW (obs:=l) (ρ:=ρ++res) (by rw[List.length_append,h0];exact hb.2) h2;refine ⟨res++σ,⟨fun hp=>?_,?_⟩,by rw[←List.append_assoc];exact e2,?_⟩
  ·have Df:=mD.app ρ (res++σ);refine ⟨?_,.inr (by simp[h0])⟩;rw[Df.args hb.1.2];have e4:((ρ++(res++σ)).drop ρ.length).take ay.length=res:=by simp[←h0]
   rw[e4];exact h1 ((Df.bG hb.1.1).1 hp)
  ·rw[←List.append_assoc];rw[List.length_append,h0] at e1;exact e1
  ·simp only[dX,List.map_cons,List.sum_cons,Ob.vars,List.length_append] at e3 ⊢;omega
theorem E.Uf {base:Nat} {es:List E} (hb:base≤ρ.length):∀e:E,e.bd (base+es.length)=true→e.eval (ρ.take base++es.map (·.eval ρ))=(e.subst base es).eval ρ:=by
 intro e;induction e with
 |vq i=>
  intro h;simp only[E.bd,decide_eq_true_eq] at h;simp only[E.subst,E.eval];by_cases hi:i<base
  ·rw[if_pos hi];simp only[E.eval,List.getD];rw[List.getElem?_append_left (by simp;omega),List.getElem?_take_of_lt hi]
  ·rw[if_neg hi];simp only[List.getD];rw[List.getElem?_append_right (by simp;omega)];have hl:(ρ.take base).length=base:=by simp;omega
   rw[hl];have h2:i-base<es.length:=by omega
   simp[h2]
 |_=>intro h;simp_all[E.bd,E.eval,E.subst]
end
end Go.Vc
namespace Go.Vc
section
variable {P:Program} {N0:Nat→Prop} {w0:Wb} {ρ:List C} {S H:SS} {hv:Nat→Value} {a:Act} {w:World} {base:Nat} {es:List E} {π:Ren}
theorem Iw:∀ {s:Sh} {e:E} {vs:List Value},Exact s (e.subst base es) vs→Exact s e vs
 | .sl s,e,vs,h=>by cases e<;>first|trivial|exact h
 | .pair x y,e,vs,h=>by
  cases e with
  |cons p q=>
   obtain ⟨va,vb,h1,h2,h3,h4⟩:=h;exact ⟨va,vb,h1,h2,Iw h3,Iw h4⟩
  |_=>trivial
 | .int k,e,vs,_=>by cases e<;>trivial
 | .bool,e,vs,_=>by cases e<;>trivial
 | .str,e,vs,_=>by cases e<;>trivial
 | .unit,e,vs,_=>by cases e<;>trivial
 | .dh _ _,e,vs,_=>by cases e<;>trivial
 | .iI,e,vs,_=>by cases e<;>trivial
 | .dZ _,e,vs,_=>by cases e<;>trivial
 | .mp _ _,e,vs,_=>by cases e<;>trivial
def lZ (π:Ren) (H:SS) (hv:Nat→Value) (r:Nat):Value:=
 match rowAt H r with
 |some _=>match ren π r with
  |some (some q)=>hv q
  |_=> .slice none 0 0
 |none=>hv r
theorem EN {r:Nat} {s:Sh} {e:E} {f:Bool} (h:rowAt S r=some (s,e,f)):S.blks[r]?=some ⟨.row s e,f,[]⟩:=by
 unfold rowAt at h;split at h
 ·rename_i hk;simp at h;obtain ⟨rfl,rfl,rfl⟩:=h;exact hk
 ·simp at h
theorem Wd {r:Nat} {cs:List SX} {f:Bool} (h:F7 S r=some (cs,f)):S.blks[r]?=some ⟨.box cs,f,[]⟩:=by
 unfold F7 at h;split at h
 ·rename_i hk;simp at h;obtain ⟨rfl,rfl⟩:=h;exact hk
 ·simp at h
theorem Bh:∀ {l:List aA} {k:Nat},Ca base es π H S k l=true→∀ {i:Nat} {b:aA},l[i]?=some b→qN base es π H S (k+i) b=true
 | [],_,_,_,_,h=>by simp at h
 |x::l,k,hw,0,b,h=>by simp at h;subst h;simp only[Ca,Bool.and_eq_true] at hw;exact hw.1
 |x::l,k,hw,i+1,b,h=>by
  simp only[Ca,Bool.and_eq_true] at hw;have:=Bh hw.2 (i:=i) (b:=b) (by simpa using h);rwa[show k+1+i=k+(i+1) by omega] at this
theorem Ut:∀ {l m:List TS},zw base es π H l m=true→l.length=m.length∧∀ {i:Nat} {x:TS},l[i]?=some x→
  x.bG=[]∧(x.sx= .none∨∃y,m[i]?=some y∧y.bG=[]∧zM base es π H x.sx y.sx=true)
 | [],[],_=>⟨rfl,fun h=>by simp at h⟩
 | [],_::_,h=>by simp[zw] at h
 |_::_,[],h=>by simp[zw] at h
 |x::l,y::m,h=>by
  simp only[zw,Bool.and_eq_true,Bool.or_eq_true,decide_eq_true_eq] at h;obtain ⟨h1,h2⟩:=Ut h.2;refine ⟨by simp[h1],fun {i z} hz=>?_⟩;cases i with
  |zero=>
   simp at hz;subst hz;exact ⟨h.1.1,h.1.2.imp id fun h3=>⟨y,by simp,h3.1,h3.2⟩⟩
  |succ i=>simpa using h2 (by simpa using hz)
theorem Sj:∀ {π:Ren},FH π=true→∀ {r r' q:Nat},ren π r=some (some q)→ren π r'=some (some q)→r=r'
 | [],_,_,_,_,h,_=>by simp[ren] at h
 |(k,x)::π,hi,r,r',q,h,h'=>by
  simp only[FH,Bool.and_eq_true] at hi;have mem:∀ {r q:Nat},ren π r=some (some q)→∃z∈π,z.2=some q:=by
   intro r q h;unfold ren at h;cases hf:π.find? fun x=>x.1==r with
   |none=>simp[hf] at h
   |some z=>simp[hf] at h;exact ⟨z,List.mem_of_find?_eq_some hf,h⟩
  have cons:∀r,ren ((k,x)::π) r=if k=r then some x else ren π r:=by
   intro r;unfold ren;by_cases e:k=r<;>simp[e]
  rw[cons] at h h';by_cases e:k=r<;>by_cases e':k=r'
  ·omega
  ·rw[if_pos e] at h;rw[if_neg e'] at h';injection h with h;subst h;obtain ⟨z,hz,hz2⟩:=mem h';have:=hi.1;simp only[List.all_eq_true] at this;have:=this z hz;rw[hz2] at this;simp at this
  ·rw[if_neg e] at h;rw[if_pos e'] at h';injection h' with h';subst h';obtain ⟨z,hz,hz2⟩:=mem h;have:=hi.1;simp only[List.all_eq_true] at this;have:=this z hz;rw[hz2] at this;simp at this
  ·rw[if_neg e] at h;rw[if_neg e'] at h';exact Sj hi.2 h h'
theorem VJ {r:Nat} {k:IntKind} {s:Sh} {e:E} {f:Bool} (h:F4 S r=some (k,s,e,f)):S.blks[r]?=some ⟨.mp k s e,f,[]⟩:=by
 unfold F4 at h;split at h
 ·rename_i hk;simp at h;obtain ⟨rfl,rfl,rfl,rfl⟩:=h;exact hk
 ·simp at h
theorem Vw {r:Nat} {s p:E} {f:Bool} (h:FV S r=some (s,p,f)):S.blks[r]?=some ⟨.sit s p,f,[]⟩:=by
 unfold FV at h;split at h
 ·rename_i hk;simp at h;obtain ⟨rfl,rfl,rfl⟩:=h;exact hk
 ·simp at h
structure Weak (base:Nat) (es:List E) (π:Ren) (H S:SS):Prop where
 len:H.tmps.length=S.tmps.length
 tmps:∀(t:Nat) (x:TS),H.tmps[t]?=some x→x.bG=[]∧(x.sx= .none∨∃y,S.tmps[t]?=some y∧y.bG=[]∧zM base es π H x.sx y.sx=true)
 row:∀(r:Nat) (s:Sh) (e:E) (f:Bool) (p:aM),H.blks[r]?=some ⟨.row s e,f,p⟩→p=[]∧
  ((∃q e' f',ren π r=some (some q)∧S.blks[q]?=some ⟨.row s e',f',[]⟩∧e.subst base es=e'∧(f=false→f'=false))∨(ren π r=some none∧e.subst base es= .nil∧s.size≠0))
 box:∀(r:Nat) (cs:List SX) (f:Bool) (p:aM),H.blks[r]?=some ⟨.box cs,f,p⟩→p=[]∧∃cs' f',S.blks[r]?=some ⟨.box cs',f',[]⟩∧(f=false→f'=false)∧wN base es π H cs cs'=true
 mp:∀(r:Nat) (k:IntKind) (s:Sh) (e:E) (f:Bool) (p:aM),H.blks[r]?=some ⟨.mp k s e,f,p⟩→p=[]∧∃e' f',S.blks[r]?=some ⟨.mp k s e',f',[]⟩∧(f=false→f'=false)∧e.subst base es=e'
 sit:∀(r:Nat) (s q:E) (f:Bool) (p:aM),H.blks[r]?=some ⟨.sit s q,f,p⟩→p=[]∧∃s' q' f',S.blks[r]?=some ⟨.sit s' q',f',[]⟩∧(f=false→f'=false)∧s.subst base es=s'∧q.subst base es=q'
 inj:∀ {r r' q:Nat},ren π r=some (some q)→ren π r'=some (some q)→r=r'
theorem aiu (h:uE base es π H S=true):Weak base es π H S:=by
 simp only[uE,Bool.and_eq_true] at h;obtain ⟨h1,h2,h3⟩:=h;obtain ⟨hl,ht⟩:=Ut h1;refine ⟨hl,fun t x hx=>ht hx,fun r s e f p hr=>?_,fun r cs f p hr=>?_,fun r k s e f p hr=>?_,fun r s q f p hr=>?_,fun h h'=>Sj h3 h h'⟩
 ·have:=Bh h2 hr;rw[Nat.zero_add] at this;cases p with
  |cons _ _=>simp[qN] at this
  |nil=>
   refine ⟨rfl,?_⟩;simp only[qN] at this;split at this
   ·rename_i q hq;split at this
    ·rename_i s' e' f' hs;simp only[Bool.and_eq_true,decide_eq_true_eq] at this;obtain ⟨⟨rfl,h5⟩,h6⟩:=this;exact .inl ⟨q,e',f',hq,EN hs,h5,fun hf=>by simpa [hf] using h6⟩
    ·simp at this
   ·rename_i hq;simp only[Bool.and_eq_true,decide_eq_true_eq,bne_iff_ne] at this;exact .inr ⟨hq,this.1,this.2⟩
   ·simp at this
 ·have:=Bh h2 hr;rw[Nat.zero_add] at this;cases p with
  |cons _ _=>simp[qN] at this
  |nil=>
   refine ⟨rfl,?_⟩;simp only[qN] at this;split at this
   ·rename_i cs' f' hs;simp only[Bool.and_eq_true] at this;exact ⟨cs',f',Wd hs,fun hf=>by simpa [hf] using this.1,this.2⟩
   ·simp at this
 ·have:=Bh h2 hr;rw[Nat.zero_add] at this;cases p with
  |cons _ _=>simp[qN] at this
  |nil=>
   refine ⟨rfl,?_⟩;simp only[qN] at this;split at this
   ·rename_i k' s' e' f' hs;simp only[Bool.and_eq_true,decide_eq_true_eq] at this;obtain ⟨rfl,rfl,h5,h6⟩:=this;exact ⟨e',f',VJ hs,fun hf=>by simpa [hf] using h6,h5⟩
   ·simp at this
 ·have:=Bh h2 hr;rw[Nat.zero_add] at this;cases p with
  |cons _ _=>simp[qN] at this
  |nil=>
   refine ⟨rfl,?_⟩;simp only[qN] at this;split at this
   ·rename_i s' q' f' hs;simp only[Bool.and_eq_true,decide_eq_true_eq] at this;obtain ⟨h4,h5,h6⟩:=this;exact ⟨s',q',f',Vw hs,fun hf=>by simpa [hf] using h6,h4,h5⟩
   ·simp at this
theorem UG {r:Nat} {s:Sh} {e:E} {f:Bool} (h:S.blks[r]?=some ⟨.row s e,f,[]⟩):rowAt S r=some (s,e,f):=by unfold rowAt;rw[h]
theorem yL {bs:List aA} {r:Nat} {s:Sh} {e:E} {f:Bool} {p:aM} (h:bs[r]?=some ⟨.row s e,f,p⟩):bK bs r=some (s,e,p):=by unfold bK;rw[h]
theorem Jl {bs:List aA} {r:Nat} {cs:List SX} {f:Bool} {p:aM} (h:bs[r]?=some ⟨.box cs,f,p⟩):eu bs r=some (cs,p):=by unfold eu;rw[h]
theorem rowIn_row {bs:List aA} {r:Nat} {s:Sh} {e:E} {p:aM} (h:bK bs r=some (s,e,p)):∃f,bs[r]?=some ⟨.row s e,f,p⟩:=by
 unfold bK at h;split at h
 ·rename_i hk;simp at h;obtain ⟨rfl,rfl,rfl⟩:=h;exact ⟨_,hk⟩
 ·simp at h
theorem ahh {bs:List aA} {r:Nat} {cs:List SX} {p:aM} (h:eu bs r=some (cs,p)):∃f,bs[r]?=some ⟨.box cs,f,p⟩:=by
 unfold eu at h;split at h
 ·rename_i hk;simp at h;obtain ⟨rfl,rfl⟩:=h;exact ⟨_,hk⟩
 ·simp at h
theorem headHv_row {r q:Nat} {s:Sh} {e:E} {f:Bool} (h:H.blks[r]?=some ⟨.row s e,f,[]⟩) (hq:ren π r=some (some q)):lZ π H hv r=hv q:=by
 unfold lZ;rw[UG h,hq]
theorem IQ {r:Nat} {s:Sh} {e:E} {f:Bool} (h:H.blks[r]?=some ⟨.row s e,f,[]⟩) (hq:ren π r=some none):lZ π H hv r= .slice none 0 0:=by
 unfold lZ;rw[UG h,hq]
theorem IU {r:Nat} {cs:List SX} {f:Bool} {p:aM} (h:H.blks[r]?=some ⟨.box cs,f,p⟩):lZ π H hv r=hv r:=by
 unfold lZ;have:rowAt H r=none:=by unfold rowAt;rw[h]
 rw[this]
theorem yI {r:Nat} {lb:LB} {f:Bool} {p:aM} (h:H.blks[r]?=some ⟨lb,f,p⟩) (hn:∀s e,lb≠ .row s e):lZ π H hv r=hv r:=by
 unfold lZ;have:rowAt H r=none:=by
  unfold rowAt;rw[h];cases lb with
  |row s e=>exact absurd rfl (hn s e)
  |_=>rfl
 rw[this]
theorem R4 (hw:Weak base es π H S) (hb:base≤ρ.length) (hbd:H.bd (base+es.length)=true) {N:Nat→Prop} {x y:SX} {v:Value} (hx:x.bd (base+es.length)=true)
  (h:zM base es π H x y=true) (hr:bn w N ρ S.blks hv y v):bn w N (ρ.take base++es.map (·.eval ρ)) H.blks (lZ π H hv) x v:=by
 have hbs:=SS.Ko hbd;have hev:∀e:E,e.bd (base+es.length)=true→e.eval (ρ.take base++es.map (·.eval ρ))=(e.subst base es).eval ρ:=fun e he=>E.Uf hb e he;unfold zM at h;split at h
 ·trivial
 ·rename_i s e s' e';simp only[Bool.and_eq_true,decide_eq_true_eq] at h;obtain ⟨rfl,rfl⟩:=h;simp only[SX.bd] at hx;obtain ⟨vs,h1,h2,h3⟩:=hr;exact ⟨vs,by rw[hev e hx];exact h1,h2,Iw h3⟩
 ·rename_i r n r' n';simp only[Bool.and_eq_true,decide_eq_true_eq,Bool.or_eq_true,Option.isSome_iff_exists] at h;obtain ⟨⟨⟨⟨s,e,f⟩,hH⟩,sG⟩,hlen⟩:=h;have iK:=EN hH;simp only[SX.bd] at hx;refine ⟨⟨_,iK,by simp⟩,fun s1 e1 p1 hr1 _=>?_⟩;rw[yL iK] at hr1;simp at hr1;obtain ⟨rfl,rfl,rfl⟩:=hr1;obtain ⟨_,hcase⟩:=hw.row r s e f [] iK;rcases hcase with ⟨q,e',f',hq,hS,he,_⟩|⟨hq,_,_⟩
  ·rw[sG] at hq;injection hq with hq;injection hq with hq;subst hq;obtain ⟨h1,h2⟩:=hr.2 s e' [] (yL hS) (aP ρ);rw[headHv_row iK sG];have hbe:=(hbs r _ iK).2;simp only[LB.bd] at hbe;refine ⟨h1,?_⟩;rcases hlen with hlen|hlen
   ·rw[hev n hx,hev e hbe,hlen,he];exact h2
   ·unfold isLen at hlen;rw[hH] at hlen;simp at hlen;rw[hlen];simp[E.eval]
  ·rw[sG] at hq;simp at hq
 ·rename_i r n s;simp only[Bool.and_eq_true,decide_eq_true_eq] at h;obtain ⟨sG,hs,hlen⟩:=h;cases hH:rowAt H r with
  |none=>rw[hH] at hs;simp at hs
  |some y=>
   obtain ⟨s',e,f⟩:=y;rw[hH] at hs;simp at hs;subst hs;have iK:=EN hH;refine ⟨⟨_,iK,by simp⟩,fun s1 e1 p1 hr1 _=>?_⟩;rw[yL iK] at hr1;simp at hr1;obtain ⟨rfl,rfl,rfl⟩:=hr1;rw[IQ iK sG];obtain ⟨vs,h1,h2,h3⟩:=hr;simp only[Exact] at h3;subst h3;refine ⟨by rw[h2];simp[Sh.mk,Sh.isAgg],?_⟩;unfold isLen at hlen;rw[hH] at hlen;simp at hlen;rw[hlen];simp[E.eval]
 ·rename_i r off n r' off' n';simp only[Bool.and_eq_true,decide_eq_true_eq,Option.isSome_iff_exists] at h;obtain ⟨⟨⟨⟨s,e,f⟩,hH⟩,sG⟩,hoff,hn⟩:=h;have iK:=EN hH;simp only[SX.bd,Bool.and_eq_true] at hx;refine ⟨⟨_,iK,by simp⟩,fun s1 e1 p1 hr1 _=>?_⟩;rw[yL iK] at hr1;simp at hr1;obtain ⟨rfl,rfl,rfl⟩:=hr1;obtain ⟨_,hcase⟩:=hw.row r s e f [] iK;rcases hcase with ⟨q,e',f',hq,hS,he,_⟩|⟨hq,_,_⟩
  ·rw[sG] at hq;injection hq with hq;injection hq with hq;subst hq;have h1:=hr.2 s e' [] (yL hS) (aP ρ);rw[headHv_row iK sG];have hbe:=(hbs r _ iK).2;simp only[LB.bd] at hbe;rw[hev off hx.1,hev n hx.2,hev e hbe,hoff,hn,he];exact h1
  ·rw[sG] at hq;simp at hq
 ·rename_i r i fo s bN r' i' fo' s' ZQ;simp only[Bool.and_eq_true,decide_eq_true_eq,Option.isSome_iff_exists] at h;obtain ⟨⟨rfl,⟨cs,f⟩,hH⟩,hi,rfl,rfl,rfl⟩:=h;have iK:=Wd hH;refine ⟨⟨_,iK,by simp⟩,fun es1 e1 p1 hr1 _=>?_,fun cs1 p1 hr1 _=>?_⟩
  ·obtain ⟨f1,hf1⟩:=rowIn_row hr1;rw[iK] at hf1;simp at hf1
  ·obtain ⟨_,cs',f',hS,_,_⟩:=hw.box r cs f [] iK;rw[IU iK];exact hr.2.2 cs' [] (Jl hS) (aP ρ)
 ·rename_i f f';simp only[decide_eq_true_eq] at h;subst h;exact hr
 ·simp only[Bool.and_eq_true,decide_eq_true_eq] at h;obtain ⟨rfl,rfl,rfl⟩:=h;exact hr
 ·simp only[Bool.and_eq_true,decide_eq_true_eq,Option.isSome_iff_exists] at h;obtain ⟨rfl,⟨k,s,e,f⟩,hH⟩:=h;have iK:=VJ hH;exact ⟨⟨_,iK,by simp⟩,by rw[yI iK (by simp)];exact hr.2⟩
 ·simp only[Bool.and_eq_true,decide_eq_true_eq,Option.isSome_iff_exists] at h;obtain ⟨rfl,⟨s,e,f⟩,hH⟩:=h;have iK:=Vw hH;exact ⟨⟨_,iK,by simp⟩,by rw[yI iK (by simp)];exact hr.2⟩
 ·simp at h
theorem QS (hw:Weak base es π H S) (hb:base≤ρ.length) (hbd:H.bd (base+es.length)=true) {N:Nat→Prop}:∀ {l m:List SX} {vs:List Value},l.all (·.bd (base+es.length))=true→
  wN base es π H l m=true→dN w N ρ S.blks hv m vs→dN w N (ρ.take base++es.map (·.eval ρ)) H.blks (lZ π H hv) l vs
 | [],[],_,_,_,hr=>hr
 | [],_::_,_,_,h,_=>by simp[wN] at h
 |_::_,[],_,_,h,_=>by simp[wN] at h
 |x::l,y::m,_,hl,h,⟨v,r,h1,h2,h3⟩=>by
  simp only[wN,Bool.and_eq_true] at h;simp only[List.all_cons,Bool.and_eq_true] at hl;exact ⟨v,r,h1,R4 hw hb hbd hl.1 h.1 h2,QS hw hb hbd hl.2 h.2 h3⟩
theorem Iy (hrel : aG P N0 w0 ρ S hv a w) (hok : uE base es π H S = true) (hb : base ≤ ρ.length) (hbd : H.bd (base + es.length) = true) :
    aG P N0 w0 (ρ.take base ++ es.map (·.eval ρ)) H (lZ π H hv) a w := by
  have hw := aiu hok;have hbs := SS.Ko hbd;have hev : ∀ e : E, e.bd (base + es.length) = true → e.eval (ρ.take base ++ es.map (·.eval ρ)) = (e.subst base es).eval ρ := fun e he => E.Uf hb e he;have live : ∀ r k g, H.blks[r]? = some k → dS k = true → bD (lZ π H hv r) = some g →
      ∃ q k', S.blks[q]? = some k' ∧ dS k' = true ∧ k'.bG = [] ∧ bD (hv q) = some g ∧ (k.eP = false → k'.eP = false) ∧ ((∃ s e, k.lb = .row s e) → ren π r = some (some q) ∧ ∃ s e, k'.lb = .row s e) ∧ ((∀ s e, k.lb ≠ .row s e) → q = r ∧ ∀ s e, k'.lb ≠ .row s e) := by
    intro r k g hk hl hg;obtain ⟨lb, f, p⟩ := k;cases lb with
    | none => cases hl
    | dead => cases hl
    | row s e =>
      obtain ⟨rfl, hcase⟩ := hw.row r s e f p hk;rcases hcase with ⟨q, e', f', hq, hS, he, hf⟩ | ⟨hq, _, _⟩
      · rw [headHv_row hk hq] at hg
        exact ⟨q, _, hS, rfl, rfl, hg, hf, fun _ => ⟨hq, s, e', rfl⟩, fun h => absurd rfl (h s e)⟩
      · rw [IQ hk hq] at hg; cases hg
    | box cs =>
      obtain ⟨rfl, cs', f', hS, hf, _⟩ := hw.box r cs f p hk;rw [IU hk] at hg;exact ⟨r, _, hS, rfl, rfl, hg, hf, fun ⟨_, _, h⟩ => (by cases h), fun _ => ⟨rfl, by simp⟩⟩
    | mp k s e =>
      obtain ⟨rfl, e', f', hS, hf, _⟩ := hw.mp r k s e f p hk;rw [yI hk (by simp)] at hg;exact ⟨r, _, hS, rfl, rfl, hg, hf, fun ⟨_, _, h⟩ => (by cases h), fun _ => ⟨rfl, by simp⟩⟩
    | sit s q =>
      obtain ⟨rfl, s', q', f', hS, hf, _⟩ := hw.sit r s q f p hk;rw [yI hk (by simp)] at hg;exact ⟨r, _, hS, rfl, rfl, hg, hf, fun ⟨_, _, h⟩ => (by cases h), fun _ => ⟨rfl, by simp⟩⟩
  have sW : ∀ b, NN N0 w0.own ρ S.blks hv b → NN N0 w0.own (ρ.take base ++ es.map (·.eval ρ)) H.blks (lZ π H hv) b := by
    intro b hbn;refine ⟨hbn.1, fun r k hk hl hf hp hg => ?_⟩;obtain ⟨q, k', h1, h2, h3, h4, h5, _, _⟩ := live r k b hk hl hg;exact hbn.2 q k' h1 h2 (h5 hf) (by rw [h3]; exact aP ρ) h4
  have hk : ∀ b, NN N0 w0.own ρ S.blks hv b → b < w.heap.size → w.heap[b]? = w.heap[b]? ∧ NN N0 w0.own (ρ.take base ++ es.map (·.eval ρ)) H.blks (lZ π H hv) b := fun b h _ => ⟨rfl, sW b h⟩;have akq : ∀ {x : SX} {v : Value}, bn w (NN N0 w0.own ρ S.blks hv) ρ S.blks hv x v → bn w (NN N0 w0.own (ρ.take base ++ es.map (·.eval ρ)) H.blks (lZ π H hv)) ρ S.blks hv x v :=
    fun h => h.le (Nat.le_refl _) hk (iA.refl _ _ _)
  refine ⟨hrel.defers, by rw [hrel.sN, hw.len], hrel.below, fun t x ht hp => ?_, fun t x ht hp => ?_, fun r k hr hp => ?_, fun r r' k k' g hr hr' hne hl hl' hp hp' hg hg' => ?_⟩
  · obtain ⟨_, h1⟩ := hw.tmps t x ht
    rcases h1 with h1 | ⟨y, hy, hyp, h1⟩
    · rw [h1]; trivial
    · exact R4 hw hb hbd (SS.Kn hbd ht).2 h1 (akq (hrel.tmps t y hy (by rw [hyp]; exact aP ρ)))
  · exact absurd (by rw [(hw.tmps t x ht).1]; exact aP _) hp
  · obtain ⟨lb, f, p⟩ := k
    cases lb with
    | none => trivial
    | dead => trivial
    | row s e =>
      obtain ⟨rfl, hcase⟩ := hw.row r s e f p hr;have hbe := (hbs r _ hr).2;simp only [LB.bd] at hbe;rcases hcase with ⟨q, e', f', hq, hS, he, _⟩ | ⟨hq, he, h0⟩
      · obtain ⟨et, xs, h1, h2, h3⟩ := hrel.blks q _ hS (aP ρ)
        refine ⟨et, xs, ?_, ?_, h3⟩
        · rw [headHv_row hr hq, hev e hbe, he]; exact h1
        · rw [hev e hbe, he]; exact h2.mono (Nat.le_refl _) hk
      · refine ⟨0, [], ?_, ?_, by omega⟩
        · rw [IQ hr hq, hev e hbe, he]
          exact ⟨by simp [E.eval], .inl ⟨rfl, by simp [E.eval]⟩⟩
        · rw [hev e hbe, he]; simp [E.eval, bq]
    | box cs =>
      obtain ⟨rfl, cs', f', hS, _, hx⟩ := hw.box r cs f p hr;obtain ⟨g, bt, arr, h1, h2, h3, h4⟩ := hrel.blks r _ hS (aP ρ);have hbe := (hbs r _ hr).2;simp only [LB.bd] at hbe;refine ⟨g, bt, arr, by rw [IU hr]; exact h1, h2, h3, QS hw hb hbd hbe hx (h4.le (Nat.le_refl _) hk (iA.refl _ _ _))⟩
    | mp k s e =>
      obtain ⟨rfl, e', f', hS, _, he⟩ := hw.mp r k s e f p hr;obtain ⟨g, l, h1, h2, h3, h4⟩ := hrel.blks r _ hS (aP ρ);have hbe := (hbs r _ hr).2;simp only [LB.bd] at hbe;refine ⟨g, l, by rw [yI hr (by simp)]; exact h1, h2, h3, ?_⟩;rw [hev e hbe, he];exact h4.imp fun _ _ h => h.mono (Nat.le_refl _) hk
    | sit s q =>
      obtain ⟨rfl, s', q', f', hS, _, he, he'⟩ := hw.sit r s q f p hr;obtain ⟨g, n, h1, h2, h3, h4⟩ := hrel.blks r _ hS (aP ρ);have hbe := (hbs r _ hr).2;simp only [LB.bd, Bool.and_eq_true] at hbe;refine ⟨g, n, by rw [yI hr (by simp)]; exact h1, h2, ?_, ?_⟩
      · rw [hev q hbe.2, he']; exact h3
      · rw [hev s hbe.1, he]; exact h4
  · obtain ⟨q, k1, a1, a2, a3, a4, _, a6, a7⟩ := live r k g hr hl hg
    obtain ⟨q', k1', b1, b2, b3, b4, _, b6, b7⟩ := live r' k' g hr' hl' hg';refine hrel.dist q q' k1 k1' g a1 b1 ?_ a2 b2 (by rw [a3]; exact aP ρ) (by rw [b3]; exact aP ρ) a4 b4;intro e;subst e;rw [a1] at b1;injection b1 with b1;subst b1;by_cases h1 : ∃ s e, k.lb = .row s e
    · by_cases h2 : ∃ s e, k'.lb = .row s e
      · exact hne (hw.inj (a6 h1).1 (b6 h2).1)
      · obtain ⟨_, s1, e1, e2⟩ := a6 h1
        exact (b7 (fun s e h => h2 ⟨s, e, h⟩)).2 _ _ e2
    · have a8 := a7 fun s e h => h1 ⟨s, e, h⟩
      by_cases h2 : ∃ s e, k'.lb = .row s e
      · obtain ⟨_, s1, e1, e2⟩ := b6 h2
        exact a8.2 _ _ e2
      · exact hne (a8.1.symm.trans (b7 fun s e h => h2 ⟨s, e, h⟩).1)
end
end Go.Vc
namespace Go.Vc
section
variable {P:Program} {cfg:bU} {N0:Nat→Prop} {w0:Wb} {ρ:List C} {S M:SS} {hv:Nat→Value} {a:Act} {w:World} {Q:Exit→Act→World→Prop}
def zX (ρ:List C) (x m:SX):Prop:=m=x∨∃s e e',x= .dat s e∧m= .dat s e'∧e'.eval ρ=e.eval ρ∧∀vs,Exact s e' vs
inductive pG (ρ:List C):List SX→List SX→Prop
 |nil:pG ρ [] []
 |cons {x m:SX} {l k:List SX}:zX ρ x m→pG ρ l k→pG ρ (x::l) (m::k)
theorem pG.refl:∀l:List SX,pG ρ l l
 | []=> .nil
 |_::l=> .cons (.inl rfl) (pG.refl l)
def xw (ρ:List C) (k0 k:aA):Prop:=k=k0∨∃cs0 cs f,k0=⟨.box cs0,f,[]⟩∧k=⟨.box cs,f,[]⟩∧pG ρ cs0 cs
structure Like (ρ:List C) (S M:SS):Prop where
 len:M.tmps.length=S.tmps.length
 tmps:∀(t:Nat) (m:TS),M.tmps[t]?=some m→m.bG=[]∧(m.sx= .none∨∃x,S.tmps[t]?=some x∧x.bG=[]∧zX ρ x.sx m.sx)
 fwd:∀(r:Nat) (k:aA),S.blks[r]?=some k→∃k',M.blks[r]?=some k'∧xw ρ k k'
 bwd:∀(r:Nat) (k:aA),M.blks[r]?=some k→∃k',S.blks[r]?=some k'∧xw ρ k' k
theorem zX.rd {N:Nat→Prop} {bs:List aA} {x m:SX} {v:Value} (h:zX ρ x m) (hr:bn w N ρ bs hv x v):bn w N ρ bs hv m v:=by
 rcases h with rfl|⟨s,e,e',rfl,rfl,h1,h2⟩
 ·exact hr
 ·obtain ⟨vs,h3,h4,_⟩:=hr;exact ⟨vs,by rw[h1];exact h3,h4,h2 vs⟩
theorem pG.rd {N:Nat→Prop} {bs:List aA}:∀ {l k:List SX} {vs:List Value},pG ρ l k→dN w N ρ bs hv l vs→dN w N ρ bs hv k vs
 | [],_,_,.nil,hr=>hr
 |_::_,_,_,.cons h1 h2,⟨v,r,e,h3,h4⟩=>⟨v,r,e,h1.rd h3,pG.rd h2 h4⟩
theorem xw.same {k0 k:aA} (h:xw ρ k0 k):dS k=dS k0∧k.eP=k0.eP∧k.bG=k0.bG∧(k0.lb≠ .none→k.lb≠ .none):=by
 rcases h with rfl|⟨cs0,cs,f,rfl,rfl,_⟩
 ·exact ⟨rfl,rfl,rfl,id⟩
 ·exact ⟨rfl,rfl,rfl,fun _=>by simp⟩
theorem Like.le (h:Like ρ S M):iA ρ S.blks M.blks hv hv:=by
 refine ⟨fun r ⟨k,h1,h2⟩=>⟨?_,rfl⟩,fun r s e p _ hr=>?_,fun r cs p _ hr=>?_⟩
 ·obtain ⟨k',h3,h4⟩:=h.fwd r k h1;exact ⟨k',h3,h4.same.2.2.2 h2⟩
 ·obtain ⟨f,hf⟩:=rowIn_row hr;obtain ⟨k',h3,h4⟩:=h.bwd r _ hf;rcases h4 with h4|⟨_,_,_,_,h4,_⟩
  ·subst h4;exact ⟨e,yL h3,rfl⟩
  ·simp at h4
 ·obtain ⟨f,hf⟩:=ahh hr;obtain ⟨k',h3,h4⟩:=h.bwd r _ hf;rcases h4 with h4|⟨cs0,_,f',h5,h4,_⟩
  ·subst h4;exact ⟨cs,Jl h3⟩
  ·subst h5;simp at h4;obtain ⟨rfl,rfl,rfl⟩:=h4;exact ⟨cs0,Jl h3⟩
theorem Like.rel (h:Like ρ S M) (hrel:aG P N0 w0 ρ S hv a w):aG P N0 w0 ρ M hv a w:=by
 have sW:∀b,NN N0 w0.own ρ S.blks hv b→NN N0 w0.own ρ M.blks hv b:=by
  intro b hb;refine ⟨hb.1,fun r k hk hl hf hp=>?_⟩;obtain ⟨k',h1,h2⟩:=h.bwd r k hk;obtain ⟨e1,e2,e3,_⟩:=h2.same;exact hb.2 r k' h1 (by rw[←e1];exact hl) (by rw[←e2];exact hf) (by rw[←e3];exact hp)
 have hk:∀b,NN N0 w0.own ρ S.blks hv b→b<w.heap.size→w.heap[b]?=w.heap[b]?∧NN N0 w0.own ρ M.blks hv b:=fun b hb _=>⟨rfl,sW b hb⟩;refine ⟨hrel.defers,by rw[hrel.sN,h.len],hrel.below,fun t m ht hp=>?_,fun t m ht hp=>?_,fun r k hr hp=>?_,fun r r' k k' g hr hr' hne hl hl' hp hp'=>?_⟩
 ·obtain ⟨_,h1⟩:=h.tmps t m ht;rcases h1 with h1|⟨x,hx,hxp,h1⟩
  ·rw[h1];trivial
  ·exact h1.rd ((hrel.tmps t x hx (by rw[hxp];exact aP ρ)).le (Nat.le_refl _) hk h.le)
 ·exact absurd (by rw[(h.tmps t m ht).1];exact aP _) hp
 ·obtain ⟨k',h1,h2⟩:=h.bwd r k hr;obtain ⟨e1,e2,e3,_⟩:=h2.same;have h3:=(hrel.blks r k' h1 (by rw[←e3];exact hp)).le (Nat.le_refl _) hk (h.le (hv:=hv)) rfl fun _ _=>rfl;rcases h2 with h2|⟨cs0,cs,f,h4,h5,h6⟩
  ·subst h2;exact h3
  ·subst h4 h5;obtain ⟨g,bt,arr,i1,i2,i3,i4⟩:=h3;exact ⟨g,bt,arr,i1,i2,i3,h6.rd i4⟩
 ·obtain ⟨k1,h1,h2⟩:=h.bwd r k hr;obtain ⟨k2,h3,h4⟩:=h.bwd r' k' hr';obtain ⟨e1,_,e3,_⟩:=h2.same;obtain ⟨e1',_,e3',_⟩:=h4.same;exact hrel.dist r r' k1 k2 g h1 h3 hne (by rw[←e1];exact hl) (by rw[←e1'];exact hl') (by rw[←e3];exact hp) (by rw[←e3'];exact hp')
theorem ES {c e e':E} {s:Sh}:(∀vs,Exact s (.ite c e e') vs):=lM (by simp) (by simp)
theorem afe {c:E} {b:Bool} (hc:(c.eval ρ).toBool=b) (x y:SX):FJ c x y= .none∨zX ρ (if b then x else y) (FJ c x y):=by
 unfold FJ;split
 ·rename_i s e s' e';split
  ·rename_i hs;subst hs;split
   ·rename_i he;subst he;right;left;cases b<;>rfl
   ·right;right;cases b
    ·exact ⟨s,e',_,rfl,rfl,by simp[E.eval,hc],ES⟩
    ·exact ⟨s,e,_,rfl,rfl,by simp[E.eval,hc],ES⟩
  ·exact .inl rfl
 ·split
  ·rename_i h;subst h;right;left;cases b<;>rfl
  ·exact .inl rfl
theorem Rj {c:E} {b:Bool} (hc:(c.eval ρ).toBool=b):∀ {l m:List TS},l.length=m.length→(uz c l m).length=l.length∧∀ {t:Nat} {z:TS},(uz c l m)[t]?=some z→
  z.bG=[]∧(z.sx= .none∨∃x,(if b then l else m)[t]?=some x∧x.bG=[]∧zX ρ x.sx z.sx)
 | [],[],_=>⟨rfl,fun h=>by simp[uz] at h⟩
 | [],_::_,h=>by simp at h
 |_::_,[],h=>by simp at h
 |x::l,y::m,h=>by
  obtain ⟨h1,h2⟩:=Rj hc (l:=l) (m:=m) (by simpa using h);refine ⟨by simp[uz,h1],fun {t z} hz=>?_⟩;cases t with
  |zero=>
   simp only[uz,List.getElem?_cons_zero,Option.some.injEq] at hz;split at hz
   ·rename_i hp;subst hz;refine ⟨rfl,?_⟩;rcases afe hc x.sx y.sx with h3|h3
    ·exact .inl h3
    ·right;cases b
     ·exact ⟨y,rfl,hp.2,h3⟩
     ·exact ⟨x,rfl,hp.1,h3⟩
   ·subst hz;exact ⟨rfl,.inl rfl⟩
  |succ t=>
   have:=h2 (t:=t) (z:=z) (by simpa [uz] using hz);cases b<;>simpa using this
theorem Rk {c:E} {b:Bool} (hc:(c.eval ρ).toBool=b):∀ {l m r:List SX},wF c l m=some r→pG ρ (if b then l else m) r
 | [],[],r,h=>by simp[wF] at h;subst h;cases b<;>exact .nil
 | [],_::_,_,h=>by simp[wF] at h
 |_::_,[],_,h=>by simp[wF] at h
 |x::l,y::m,r,h=>by
  simp only[wF] at h;split at h
  ·rename_i r' hr;have ih:=Rk hc hr;split at h
   ·rename_i he;subst he;simp at h;subst h;cases b<;>exact .cons (.inl rfl) ih
   ·split at h
    ·rename_i s e s' e' _;split at h
     ·rename_i hs;subst hs;simp at h;subst h;cases b
      ·exact .cons (.inr ⟨s,e',_,rfl,rfl,by simp[E.eval,hc],ES⟩) ih
      ·exact .cons (.inr ⟨s,e,_,rfl,rfl,by simp[E.eval,hc],ES⟩) ih
     ·simp at h
    ·simp at h
  ·simp at h
theorem aff {c:E} {b:Bool} (hc:(c.eval ρ).toBool=b) {x y k:aA} (h:KF c x y=some k):xw ρ (if b then x else y) k:=by
 unfold KF at h;split at h
 ·rename_i he;subst he;simp at h;subst h;cases b<;>exact .inl rfl
 ·split at h
  ·rename_i cs f cs' f' _;split at h
   ·rename_i hf;subst hf;split at h
    ·rename_i r hr;simp at h;subst h;have:=Rk hc hr;cases b
     ·exact .inr ⟨cs',r,f,rfl,rfl,this⟩
     ·exact .inr ⟨cs,r,f,rfl,rfl,this⟩
    ·simp at h
   ·simp at h
  ·simp at h
theorem Rl {c:E} {b:Bool} (hc:(c.eval ρ).toBool=b):∀ {l m bs:List aA},wG c l m=some bs→bs.length=(if b then l else m).length∧
  ∀(r:Nat) (k:aA),bs[r]?=some k→∃k',(if b then l else m)[r]?=some k'∧xw ρ k' k
 | [],[],bs,h=>by simp[wG] at h;subst h;cases b<;>exact ⟨rfl,fun r k hk=>by simp at hk⟩
 | [],_::_,_,h=>by simp[wG] at h
 |_::_,[],_,h=>by simp[wG] at h
 |x::l,y::m,bs,h=>by
  simp only[wG] at h;split at h
  ·rename_i k' r' h1 h2;simp at h;subst h;obtain ⟨i1,i2⟩:=Rl hc h2;refine ⟨by cases b<;>simpa using i1,fun r k hk=>?_⟩;cases r with
   |zero=>
    simp at hk;subst hk;have:=aff hc h1;cases b
    ·exact ⟨y,rfl,this⟩
    ·exact ⟨x,rfl,this⟩
   |succ r=>
    have:=i2 r k (by simpa using hk);cases b<;>simpa using this
  ·simp at h
theorem Ik {c:E} {b:Bool} (hc:(c.eval ρ).toBool=b) {S1 S2:SS} (h:KE c S1 S2=some M):Like ρ (if b then S1 else S2) M∧M.nv=S1.nv:=by
 unfold KE at h;split at h
 ·rename_i hl;split at h
  ·rename_i bs hb;simp at h;subst h;obtain ⟨t1,t2⟩:=Rj hc hl.1;obtain ⟨b1,b2⟩:=Rl hc hb;have fwd:∀(r:Nat) (k:aA),(if b then S1 else S2).blks[r]?=some k→∃k',bs[r]?=some k'∧xw ρ k k':=by
    intro r k hk;have hlt:r<bs.length:=by
     rw[b1];have:=(List.getElem?_eq_some_iff.1 hk).1;cases b<;>exact this
    obtain ⟨k',h1,h2⟩:=b2 r bs[r] (by simp[hlt]);have:k'=k:=by
     have e:(if b then S1.blks else S2.blks)[r]?=some k:=by cases b<;>exact hk
     rw[e] at h1;injection h1 with h1;exact h1.symm
    subst this;exact ⟨bs[r],by simp[hlt],h2⟩
   refine ⟨⟨?_,fun t m ht=>?_,fwd,fun r k hk=>?_⟩,rfl⟩
   ·cases b
    ·exact t1.trans hl.1
    ·exact t1
   ·have:=t2 ht;cases b<;>exact this
   ·have:=b2 r k hk;cases b<;>exact this
  ·simp at h
 ·simp at h
theorem IB (p:aM) (o:Ob):(o.under p).vars=o.vars:=by cases o<;>rfl
theorem IC {p:aM} (hp:aR ρ p):∀ {l:List Ob} {nv:Nat},bY P ρ nv (l.map (Ob.under p))→bY P ρ nv l
 | [],_,_=>trivial
 |o::l,nv,h=>by
  obtain ⟨h1,h2⟩:=h;rw[IB] at h2;refine ⟨?_,IC hp h2⟩;cases o with
  |ah q e=>exact fun hq=>h1 (yB.2 ⟨hp,hq⟩)
  |call q f args ay=>exact fun hq=>h1 (yB.2 ⟨hp,hq⟩)
theorem wD:∀ {c:Code} {S M:SS} {obs:List Ob},prun P cfg c S=some (M,obs)→M.nv=S.nv∧dX obs=0
 | .skip,S,M,obs,h=>by simp[prun] at h;obtain ⟨rfl,rfl⟩:=h;exact ⟨rfl,rfl⟩
 | .region _ ops draw,S,M,obs,h=>by
  simp only[prun] at h;split at h
  ·simp at h
  ·split at h
   ·rename_i S' ob hr;split at h
    ·rename_i hn;simp at h;obtain ⟨rfl,rfl⟩:=h;have:=I6 hr;exact ⟨hn,by omega⟩
    ·simp at h
   ·simp at h
 | .seq x y,S,M,obs,h=>by
  simp only[prun] at h;split at h
  ·rename_i h1;split at h
   ·rename_i h2;simp at h;obtain ⟨rfl,rfl⟩:=h;obtain ⟨e1,e2⟩:=wD h1;obtain ⟨e3,e4⟩:=wD h2;simp only[dX,List.map_append,List.sum_append] at*;exact ⟨by omega,by omega⟩
   ·simp at h
  ·simp at h
 | .cond c x y,S,M,obs,h=>by
  simp only[prun] at h;split at h
  ·rename_i e he;split at h
   ·rename_i h1 h2;split at h
    ·rename_i M' hm;simp at h;obtain ⟨rfl,rfl⟩:=h;obtain ⟨e1,e2⟩:=wD h1;obtain ⟨e3,e4⟩:=wD h2;have hu:∀(p:aM) (l:List Ob),((l.map (Ob.under p)).map Ob.vars).sum=(l.map Ob.vars).sum:=by
      intro p l;rw[List.map_map];congr 1
      exact List.map_congr_left fun o _=>IB p o
     have oQ:M'.nv=_:=(Ik (ρ:=[]) (c:=e) rfl hm).2;simp only[dX,List.map_append,List.sum_append,hu] at*;exact ⟨by omega,by omega⟩
    ·simp at h
   ·simp at h
  ·simp at h
 | .block ..,_,_,_,h| .exit _,_,_,_,h| .ret,_,_,_,h| .loop _,_,_,_,h| .scope ..,_,_,_,h| .label _,_,_,_,h| .goto _,_,_,_,h=>by simp[prun] at h
theorem Bd:∀ {c:Code} {S M:SS} {obs:List Ob} {hv:Nat→Value} {a:Act} {w:World} {Q:Exit→Act→World→Prop},aG P N0 w0 ρ S hv a w→prun P cfg c S=some (M,obs)→bY P ρ S.nv obs→
  (∀a' w',(∃hv',aG P N0 w0 ρ M hv' a' w')→Q .normal a' w')→c.wp P Q a w
 | .skip,S,M,obs,hv,a,w,Q,hrel,h,_,hq=>by simp[prun] at h;obtain ⟨rfl,rfl⟩:=h;exact wp_skip (hq _ _ ⟨hv,hrel⟩)
 | .region _ ops draw,S,M,obs,hv,a,w,Q,hrel,h,ho,hq=>by
  simp only[prun] at h;split at h
  ·simp at h
  ·rename_i hd;split at h
   ·rename_i S' ob hr;split at h
    ·simp at h;obtain ⟨rfl,rfl⟩:=h;exact Q8 hrel (by simpa using hd) hr ho hq
    ·simp at h
   ·simp at h
 | .seq x y,S,M,obs,hv,a,w,Q,hrel,h,ho,hq=>by
  simp only[prun] at h;split at h
  ·rename_i S1 o1 h1;split at h
   ·rename_i S2 o2 h2;simp at h;obtain ⟨rfl,rfl⟩:=h;obtain ⟨e1,e2⟩:=wD h1;rw[oZ] at ho;refine wp_seq (Bd hrel h1 ho.1 fun a' w' ⟨hv',hr'⟩=>?_);refine Bd hr' h2 ?_ hq;have:=ho.2;simp only[dX] at e2;rw[e2,Nat.add_zero] at this;rw[e1];exact this
   ·simp at h
  ·simp at h
 | .cond c x y,S,M,obs,hv,a,w,Q,hrel,h,ho,hq=>by
  simp only[prun] at h;split at h
  ·rename_i e he;split at h
   ·rename_i S1 o1 S2 o2 h1 h2;split at h
    ·rename_i M' hm;simp at h;obtain ⟨rfl,rfl⟩:=h;have hc:=bg hrel (aP ρ) he;rw[iT] at hc;rw[oZ] at ho;obtain ⟨e1,e2⟩:=wD h1;have hu:((o1.map (Ob.under [(e,true)])).map Ob.vars).sum=0:=by
      rw[List.map_map];simp only[dX] at e2;rw[←e2];congr 1
      exact List.map_congr_left fun o _=>IB _ o
     refine wp_cond_split hc (fun ht=>?_) (fun hf=>?_)
     ·refine Bd hrel h1 (IC (yA.2 ht) ho.1) fun a' w' ⟨hv',hr'⟩=>hq a' w' ⟨hv',?_⟩;exact (Ik ht hm).1.rel hr'
     ·have h3:=ho.2;rw[hu,Nat.add_zero] at h3;refine Bd hrel h2 (IC (yA.2 hf) h3) fun a' w' ⟨hv',hr'⟩=>hq a' w' ⟨hv',?_⟩;exact (Ik hf hm).1.rel hr'
    ·simp at h
   ·simp at h
  ·simp at h
 | .block ..,_,_,_,_,_,_,_,_,h,_,_| .exit _,_,_,_,_,_,_,_,_,h,_,_| .ret,_,_,_,_,_,_,_,_,h,_,_| .loop _,_,_,_,_,_,_,_,_,h,_,_
 | .scope ..,_,_,_,_,_,_,_,_,h,_,_| .label _,_,_,_,_,_,_,_,_,h,_,_| .goto _,_,_,_,_,_,_,_,_,h,_,_=>by simp[prun] at h
end
end Go.Vc
namespace Go.Vc
section
variable {P:Program} {cfg:bU} {hints:List Hint} {N0:Nat→Prop} {w0:Wb} {Post:List (Sh×C)→Prop}
def XE.Kv:XE→Exit
 | .normal=> .normal
 | .exit id=> .exit id
 | .ret=> .ret
def Goes (P:Program) (N0:Nat→Prop) (w0:Wb) (Post:List (Sh×C)→Prop) (K:XE→SS→Nat→VC) (Q:Exit→Act→World→Prop) (ρ:List C) (Bs:List (List C→Prop)):Prop:=
 ∀e S' l' ρ' fJ hv' a' w',ρ<+:ρ'→Bs<+:fJ→fJ.length=l'→ρ'.length=S'.nv→aG P N0 w0 ρ' S' hv' a' w'→(K e S' l').holds P Post fJ ρ'→Q e.Kv a' w'
theorem Goes.mono {K:XE→SS→Nat→VC} {Q:Exit→Act→World→Prop} {ρ ρ':List C} {Bs fJ:List (List C→Prop)} (h:Goes P N0 w0 Post K Q ρ Bs) (h1:ρ<+:ρ') (h2:Bs<+:fJ):Goes P N0 w0 Post K Q ρ' fJ:=
 fun e S' l' ρ2 Bs2 hv' a' w' g1 g2=>h e S' l' ρ2 Bs2 hv' a' w' (h1.trans g1) (h2.trans g2)
theorem Sk {α:Type} {l m:List α} (h:l<+:m):m.take l.length=l:=by
 obtain ⟨t,rfl⟩:=h;simp
theorem Sl {Bs fJ:List (List C→Prop)} {x d:List C→Prop} (h:Bs++ [x]<+:fJ):fJ.getD Bs.length d=x:=by
 obtain ⟨t,rfl⟩:=h;simp[List.getD]
theorem EM:∀(c:Code) {S:SS} {l:Nat} {K:XE→SS→Nat→VC} {ρ:List C} {Bs:List (List C→Prop)} {hv:Nat→Value} {a:Act} {w:World} {Q:Exit→Act→World→Prop},
  aG P N0 w0 ρ S hv a w→ρ.length=S.nv→Bs.length=l→(sx P cfg hints c S l K).holds P Post Bs ρ→Goes P N0 w0 Post K Q ρ Bs→c.wp P Q a w:=by
 intro c;induction c with
 |skip=>
  intro S l K ρ Bs hv a w Q hrel hn hl h hq;exact wp_skip (hq .normal S l ρ Bs hv a w (List.prefix_refl _) (List.prefix_refl _) hl hn hrel h)
 |region id ops draw=>
  intro S l K ρ Bs hv a w Q hrel hn hl h hq;simp only[sx] at h;split at h
  ·exact h.elim
  ·rename_i hd;split at h
   ·rename_i S' obs hr;split at h
    ·rename_i hb;simp only[Bool.and_eq_true] at hb;rw[←hn] at hb;obtain ⟨σ,o1,o2,o3⟩:=DW hb.2 h;have hrel':=hrel.env (mD.app ρ σ) hb.1;have oQ:=I6 hr;refine adF hrel' (by simpa using hd) hr (by rw[←hn];exact o1) fun a' w' ⟨hv',hr'⟩=>?_;exact hq .normal S' l (ρ++σ) Bs hv' a' w' (List.prefix_append _ _) (List.prefix_refl _) hl (by rw[List.length_append,o3,oQ,hn]) hr' o2
    ·exact h.elim
   ·exact h.elim
 |seq x y Aw ihy=>
  intro S l K ρ Bs hv a w Q hrel hn hl h hq;simp only[sx] at h;refine wp_seq (Aw hrel hn hl h fun e S' l' ρ' fJ hv' a' w' g1 g2 g3 g4 g5 g6=>?_);cases e with
  |normal=>exact ihy g5 g4 g3 g6 (hq.mono g1 g2)
  |exit id=>exact hq (.exit id) S' l' ρ' fJ hv' a' w' g1 g2 g3 g4 g5 g6
  |ret=>exact hq .ret S' l' ρ' fJ hv' a' w' g1 g2 g3 g4 g5 g6
 |cond c x y Aw ihy=>
  intro S l K ρ Bs hv a w Q hrel hn hl h hq;simp only[sx] at h;split at h
  ·rename_i e he;have hc:=bg hrel (aP ρ) he;rw[iT] at hc;split at h
   ·exact wp_cond_true (by simpa [E.eval] using hc) (Aw hrel hn hl h hq)
   ·exact wp_cond_false (by simpa [E.eval] using hc) (ihy hrel hn hl h hq)
   ·split at h
    ·rename_i M obs hp;split at h
     ·rename_i hb;simp only[Bool.and_eq_true] at hb;rw[←hn] at hb;obtain ⟨σ,o1,o2,o3⟩:=DW hb.2 h;have hrel':=hrel.env (mD.app ρ σ) hb.1;obtain ⟨e1,e2⟩:=wD hp;refine Bd hrel' hp (by rw[←hn];exact o1) fun a' w' ⟨hv',hr'⟩=>?_;exact hq .normal M l (ρ++σ) Bs hv' a' w' (List.prefix_append _ _) (List.prefix_refl _) hl (by rw[List.length_append,o3,e2,e1,hn,Nat.add_zero]) hr' o2
     ·exact h.elim
    ·split at h
     ·generalize FI _ (writes (.cond c x y)) S=m at h;obtain ⟨H,es,π⟩:=m;simp only at h;split at h
      ·rename_i hok;simp only[Bool.and_eq_true,decide_eq_true_eq] at hok;obtain ⟨oQ,AA⟩:=hok;obtain ⟨I,hbody,hrest⟩:=h;rw[oQ] at AA;have land:∀(n:Nat) (e:XE) (S':SS) (l':Nat) (ρ':List C) (fJ:List (List C→Prop)) (hv':Nat→Value) (a':Act) (w':World),ρ<+:ρ'→Bs++ [I]<+:fJ→fJ.length=l'→ρ'.length=S'.nv→aG P N0 w0 ρ' S' hv' a' w'→
         ((match e with
          | .normal=>match guess S.nv es.length H S' with
           |(es',π')=>if uE S.nv es' π' H S'&&es'.length=es.length then .back l es' else .fail n
          |e=>K e S' l':VC)).holds P Post fJ ρ'→Q e.Kv a' w':=by
        intro n e S' l' ρ' fJ hv' a' w' p1 g2 g3 g4 g5 g6;have p2:Bs<+:fJ:=(List.prefix_append Bs _).trans g2;cases e with
        |normal=>
         simp only at g6;generalize guess S.nv es.length H S'=gs at g6;obtain ⟨es',π'⟩:=gs;simp only at g6;split at g6
         ·rename_i hok';simp only[Bool.and_eq_true,decide_eq_true_eq] at hok';simp only[VC.holds] at g6;rw[←hl,Sl g2] at g6;have hlen:S.nv≤ρ'.length:=by rw[←hn];exact p1.length_le
          have h2:=Iy g5 hok'.1 hlen (by rw[hok'.2];exact AA);rw[←hn,Sk p1] at h2;have hvs:(es'.map (·.eval ρ')).length=es.length:=by simp[hok'.2]
          exact hq .normal H l (ρ++es'.map (·.eval ρ')) Bs _ a' w' (List.prefix_append _ _) (List.prefix_refl _) hl (by rw[List.length_append,hvs,oQ,hn]) h2 (hrest _ hvs g6)
         ·exact g6.elim
        |exit id=>exact hq (.exit id) S' l' ρ' fJ hv' a' w' p1 p2 g3 g4 g5 g6
        |ret=>exact hq .ret S' l' ρ' fJ hv' a' w' p1 p2 g3 g4 g5 g6
       have hl1:(Bs++ [I]).length=l+1:=by rw[List.length_append,hl];rfl
       exact wp_cond_split hc (fun ht=>Aw hrel hn hl1 (hbody.1 ht) (land _)) (fun hf=>ihy hrel hn hl1 (hbody.2 hf) (land _))
      ·exact h.elim
     ·exact wp_cond_split hc (fun ht=>Aw hrel hn hl (h.1 ht) hq) (fun hf=>ihy hrel hn hl (h.2 hf) hq)
  ·rename_i e he;obtain ⟨b,hb,hz⟩:=bg hrel (aP ρ) he;exact wp_cond_split hb (fun ht=>Aw hrel hn hl (h.1 (hz ht)) hq) (fun hf=>ihy hrel hn hl h.2 hq)
  ·exact h.elim
 |block id c ih=>
  intro S l K ρ Bs hv a w Q hrel hn hl h hq;simp only[sx] at h;refine wp_block (ih hrel hn hl h fun e S' l' ρ' fJ hv' a' w' g1 g2 g3 g4 g5 g6=>?_);cases e with
  |normal=>exact hq .normal S' l' ρ' fJ hv' a' w' g1 g2 g3 g4 g5 g6
  |exit id'=>
   simp only[XE.Kv,Exit.inBlock];simp only at g6;split at g6
   ·rename_i hid;rw[if_pos hid];exact hq .normal S' l' ρ' fJ hv' a' w' g1 g2 g3 g4 g5 g6
   ·rename_i hid;rw[if_neg hid];exact hq (.exit id') S' l' ρ' fJ hv' a' w' g1 g2 g3 g4 g5 g6
  |ret=>exact hq .ret S' l' ρ' fJ hv' a' w' g1 g2 g3 g4 g5 g6
 |exit id=>
  intro S l K ρ Bs hv a w Q hrel hn hl h hq;exact wp_exit (hq (.exit id) S l ρ Bs hv a w (List.prefix_refl _) (List.prefix_refl _) hl hn hrel h)
 |ret=>
  intro S l K ρ Bs hv a w Q hrel hn hl h hq;exact wp_ret (hq .ret S l ρ Bs hv a w (List.prefix_refl _) (List.prefix_refl _) hl hn hrel h)
 |loop c ih=>
  intro S l K ρ Bs hv a w Q hrel hn hl h hq;simp only[sx] at h;generalize FI _ (writes c) S=m at h;obtain ⟨H,es,π⟩:=m;simp only at h;split at h
  ·rename_i hok;simp only[Bool.and_eq_true,decide_eq_true_eq] at hok;obtain ⟨hw,oQ,AA,hbS⟩:=hok;obtain ⟨I,μ,h0,hstep⟩:=h;rw[oQ] at AA;have h1:=Iy hrel hw (by omega) AA;have ht:ρ.take S.nv=ρ:=by rw[←hn];simp
   rw[ht] at h1;refine wp_loop_ghost (fun n a w=>∃vs hv,vs.length=es.length∧I vs∧μ vs=n∧aG P N0 w0 (ρ++vs) H hv a w) _ ⟨_,_,by simp,h0,rfl,h1⟩ ?_;rintro n a1 w1 ⟨vs,hv1,hvs,hI,rfl,hr1⟩;refine ih hr1 (by rw[List.length_append,hvs,oQ,hn]) (by rw[List.length_append,hl];rfl) (hstep vs hvs hI) fun e S' l' ρ' fJ hv' a' w' g1 g2 g3 g4 g5 g6=>?_;have p1:ρ<+:ρ':=(List.prefix_append ρ vs).trans g1;have p2:Bs<+:fJ:=(List.prefix_append Bs _).trans g2;cases e with
   |normal=>
    simp only at g6;generalize guess S.nv es.length H S'=gs at g6;obtain ⟨es',π'⟩:=gs;simp only at g6;split at g6
    ·rename_i hok';simp only[Bool.and_eq_true,decide_eq_true_eq] at hok';simp only[VC.holds] at g6;rw[←hl,Sl g2] at g6;have hlen:S.nv≤ρ'.length:=by rw[←hn];exact p1.length_le
     have h2:=Iy g5 hok'.1 hlen (by rw[hok'.2];exact AA);rw[←hn,Sk p1] at h2;exact ⟨_,g6.2,_,_,by simp[hok'.2],g6.1,rfl,h2⟩
    ·exact g6.elim
   |exit id=>exact hq (.exit id) S' l' ρ' fJ hv' a' w' p1 p2 g3 g4 g5 g6
   |ret=>exact hq .ret S' l' ρ' fJ hv' a' w' p1 p2 g3 g4 g5 g6
  ·exact h.elim
 |_=>intro S l K ρ Bs hv a w Q hrel hn hl h hq;exact h.elim
end
end Go.Vc
namespace Go.Vc
open Go.RowKit
section
variable {P:Program} {cfg:bU} {hints:List Hint} {N0:Nat→Prop} {w0:Wb} {ρ:List C} {S:SS} {hv:Nat→Value} {a:Act} {w:World}
def Au (N0:Nat→Prop) (w0:Wb) (b:Nat):Prop:=N0 b∨w0.own b
theorem WR {t:TypeId} {v u:Value} (h:(Instr.loadAt t v).run P w= .ok u w):(do loadVar t (←asAddr v):Sem Value).run P w= .ok u w:=by
 cases v with
 |pointer p=>
  cases p with
  |some b=>simpa [Instr.loadAt,Instr.sureAddr,asAddr] using h
  |none=>simp[Instr.loadAt,Instr.sureAddr,stuck] at h
 |_=>simp[Instr.loadAt,Instr.sureAddr,stuck] at h
theorem KD (hrel:aG P N0 w0 ρ S hv a w) {f:List Nat} (hf:∀r∈f,iV S.blks ρ r) {N:Nat→Prop} (hN:∀b,N b→Au N0 w0 b) {b:Nat} (h:NF N hv f b):Au N0 w0 b:=by
 rcases h with h|⟨r,hr,hg⟩
 ·exact hN b h
 ·obtain ⟨k,h3,hl,h2⟩:=hf r hr;exact .inr (hrel.lt h3 hl h2 hg).2
theorem aG.aiS (hrel:aG P N0 w0 ρ S hv a w):mg w w0.own (Au N0 w0) ρ S.blks hv:=by
 refine ⟨fun r s e p hr hp=>?_,fun r k s e p hr hp=>?_⟩
 ·obtain ⟨et,xs,h1,h2,h3⟩:=hrel.rows.row r s e p hr hp;exact ⟨et,xs,h1,h2.mono (Nat.le_refl _) fun b hb _=>⟨rfl,hb.1⟩,h3⟩
 ·obtain ⟨g,l,h1,h2,h3,h4⟩:=hrel.rows.map r k s e p hr hp;exact ⟨g,l,h1,h2,h3,h4.imp fun _ _ h=>h.mono (Nat.le_refl _) fun b hb _=>⟨rfl,hb.1⟩⟩
theorem Xx (hrel:aG P N0 w0 ρ S hv a w) {x:SX} {s:Sh} {e:E} {f:List Nat} {v:Value} (h:gW S.rb [] x=some (s,e,f)) (hx:bn w (Au N0 w0) ρ S.blks hv x v):
  bE w (Au N0 w0) s v (e.eval ρ):=by
 have h1:=zu (rQ hrel.aiS (aP ρ) h hx);exact h1.mono (Nat.le_refl _) fun b hb _=>⟨rfl,KD hrel (vT (aP ρ) h) (fun _ h=>h) hb⟩
def mO (tmps:Array Value):ResultVar→Sem Value
 | .tmp t=>pure (tmps.getD t undef)
 | .cell b t=>do loadVar t (←asAddr (tmps.getD b undef))
theorem IG (hrel:aG P N0 w0 ρ S hv a w):∀ {l:List ResultVar} {rs:List (Sh×E)},uY P S l=some rs→
  ∃vs,(l.mapM (mO a.tmps)).run P w= .ok vs w∧bZ w (Au N0 w0) (dI ρ rs) vs
 | [],rs,h=>by
  simp[uY] at h;subst h;exact ⟨[],by simp,rfl⟩
 | .tmp t::l,rs,h=>by
  simp only[uY] at h;split at h
  ·rename_i s e f r h1 h2;simp at h;subst h;obtain ⟨vs,i1,i2⟩:=IG hrel h2;obtain ⟨x,hx,hd⟩:=Option.bind_eq_some_iff.1 h1;have h3:=bg hrel (aP ρ) hx;have h4:=Xx hrel hd (h3.le (Nat.le_refl _) (fun b hb _=>⟨rfl,hb.1⟩) (iA.refl _ _ _));refine ⟨a.tmps.getD t undef::vs,by simp only[List.mapM_cons,mO];simp[i1],_,_,rfl,?_,i2⟩;simpa [Act.eval] using h4
  ·simp at h
 | .cell t ty::l,rs,h=>by
  simp only[uY] at h;split at h
  ·rename_i s e f r h1 h2;simp at h;subst h;obtain ⟨vs,i1,i2⟩:=IG hrel h2;obtain ⟨o,ho,hd⟩:=Option.bind_eq_some_iff.1 h1;obtain ⟨f1,e1,e2,_,_,u,e3,e4⟩:=Il hrel.rows hrel.boxes (aP ρ) ho (v:=a.eval (.tmp t)) fun y hy=>bg hrel (aP ρ) hy;have h4:=Xx hrel hd (e4.le (Nat.le_refl _) (fun b hb _=>⟨rfl,KD hrel e2 (fun _ h=>h.1) hb⟩) (iA.refl _ _ _));have h5:=WR e3;refine ⟨u::vs,?_,_,_,rfl,h4,i2⟩;have h6:a.eval (.tmp t)=a.tmps.getD t undef:=by simp[Act.eval]
   rw[h6] at h5;have h7:(mO a.tmps (.cell t ty)).run P w= .ok u w:=h5;rw[List.mapM_cons];simp[h7,i1]
  ·simp at h
theorem Bc {fn:Func} {tmps:Array Value} {vs:List Value} (h:(fn.results.toList.mapM (mO tmps)).run P w= .ok vs w):
  (results fn tmps).run P w= .ok (if h:vs.length=1 then vs[0] else .tuple vs.toArray) w:=by
 have e:results fn tmps=(do let vs ←fn.results.mapM (mO tmps);pure (if h:vs.size=1 then vs[0] else .tuple vs):Sem Value):=by
  unfold results;congr 1
 rw[e,Array.mapM_eq_mapM_toList];simp[h]
theorem IE:∀(l:List Sh) (k i:Nat) (s:Sh) (e:E),(gG k l)[i]?=some (s,e)→l[i]?=some s∧e= .vq (k+i)
 | [],_,_,_,_,h=>by simp[gG] at h
 |x::l,k,0,s,e,h=>by simp[gG] at h;obtain ⟨rfl,rfl⟩:=h;simp
 |x::l,k,i+1,s,e,h=>by
  simp only[gG,List.getElem?_cons_succ] at h;obtain ⟨h1,h2⟩:=IE l (k+1) i s e h;exact ⟨by simpa using h1,by rw[h2];congr 1;omega⟩
theorem G8:∀(l:List Sh) (k:Nat),(gG k l).length=l.length
 | [],_=>rfl
 |_::l,k=>by simp[gG,G8 l]
theorem JN {N:Nat→Prop}:∀ {l:List (Sh×C)} {vs:List Value} {i:Nat} {s:Sh} {c:C},bZ w N l vs→l[i]?=some (s,c)→∃v,vs[i]?=some v∧bE w N s v c
 | [],_,_,_,_,_,h=>by simp at h
 |(s,c)::l,_,0,_,_,⟨v,r,h1,h2,h3⟩,h=>by simp at h;obtain ⟨rfl,rfl⟩:=h;exact ⟨v,by simp[h1],h2⟩
 |(s,c)::l,_,i+1,_,_,⟨v,r,h1,h2,h3⟩,h=>by
  obtain ⟨u,h4,h5⟩:=JN h3 (by simpa using h);exact ⟨u,by simp[h1,h4],h5⟩
theorem Ii {args:List (Sh×C)} {vs:List Value} (aN:KW P w) (h:bZ w N0 args vs) (n:Nat):
  aG P N0 ⟨w,fun _=>False⟩ (args.map (·.2)) (nI (args.map (·.1)) n) (fun _=>undef) {tmps:=vs.toArray++Array.replicate (n-vs.toArray.size) undef,defers:=[]} w:=by
 have hlen:=D9 h;have hnone:∀(r:Nat) (k:aA),(nI (args.map (·.1)) n).blks[r]?=some k→k.lb= .none:=by
  intro r k hk;simp only[nI,List.getElem?_replicate] at hk;split at hk
  ·injection hk with hk;subst hk;rfl
  ·cases hk
 have hlive:∀(r:Nat) (k:aA),(nI (args.map (·.1)) n).blks[r]?=some k→dS k=true→False:=by
  intro r k hk hl;unfold dS at hl;rw[hnone r k hk] at hl;cases hl
 have Dv:∀(t:Nat) (ts:TS),(nI (args.map (·.1)) n).tmps[t]?=some ts→ts.bG=[]∧(ts.sx= .none∨∃s c,args[t]?=some (s,c)∧ts.sx= .dat s (.vq t)):=by
  intro t ts ht;simp only[nI] at ht;rw[List.getElem?_append] at ht;split at ht
  ·rw[List.getElem?_map] at ht;cases hr:(gG 0 (args.map (·.1)))[t]? with
   |none=>simp[hr] at ht
   |some x=>
    obtain ⟨s,e⟩:=x;simp[hr] at ht;subst ht;obtain ⟨h1,h2⟩:=IE _ 0 t s e hr;rw[List.getElem?_map] at h1;cases ha:args[t]? with
    |none=>simp[ha] at h1
    |some y=>
     obtain ⟨s',c⟩:=y;simp[ha] at h1;subst h1;rw[Nat.zero_add] at h2;subst h2;exact ⟨rfl,.inr ⟨s',c,rfl,rfl⟩⟩
  ·rw[List.getElem?_replicate] at ht;split at ht
   ·injection ht with ht;subst ht;exact ⟨rfl,.inl rfl⟩
   ·cases ht
 refine ⟨rfl,?_,⟨rfl,rfl,rfl,Nat.le_refl _,fun _ _ _=>rfl,aN,fun _ _ h=>h⟩,fun t ts ht hp=>?_,fun t ts ht hp=>?_,fun r k hr hp=>?_,fun r r' k k' g hr hr' hne hl=>?_⟩
 ·simp[nI,G8,hlen]
 ·rcases (Dv t ts ht).2 with h1|⟨s,c,h1,h2⟩
  ·rw[h1];trivial
  ·rw[h2];obtain ⟨v,h3,h4⟩:=JN h h1;have hlt:t<vs.length:=(List.getElem?_eq_some_iff.1 h3).1;have hv:(vs.toArray++Array.replicate (n-vs.toArray.size) undef).getD t undef=v:=by
    have:(vs.toArray++Array.replicate (n-vs.toArray.size) undef)[t]?=some v:=by
     rw[Array.getElem?_append_left (by simpa using hlt)];simpa using h3
    rw[Array.getD_eq_getD_getElem?,this];rfl
   simp only[hv];refine qM ?_ (lM (by simp) (by simp));have he:(E.vq t).eval (args.map (·.2))=c:=by simp[E.eval,List.getD,h1]
   rw[he];exact h4.mono (Nat.le_refl _) fun b hb _=>⟨rfl,.inl hb,fun r k hr hl=>(hlive r k hr hl).elim⟩
 ·exact absurd (by rw[(Dv t ts ht).1];exact aP _) hp
 ·rw[hnone r k hr];trivial
 ·exact (hlive r k hr hl).elim
theorem PC.zP {f:FuncId} {fn:Func} (hlt:f<1000000) (hf:P.funcs[f]?=some fn) (hname:(fn.name== "runtime.NumGoroutine")=false) {bM:List Sh} {vc:VC} (fI:LA P cfg hints fn bM=vc)
  {args ay:List (Sh×C)} (hs:args.map (·.1)=bM) (h:vc.holds P (fun r=>r=ay) [] (args.map (·.2))):PC P f args ay:=by
 apply PC.sQ hlt;subst fI hs;unfold LA at h;cases hb:fn.body with
 |none=>simp only[hb] at h;exact h.elim
 |some c=>
  simp only[hb] at h;refine ⟨⟨fn,hf,by simp[hb],hname⟩,fun w N vs aN hrd=>calls_of_wp hf hb ?_⟩;have hst:=Ii aN hrd fn.ntmps;refine EM c hst (by simp[nI]) rfl h fun e S' l' ρ' fJ hv' a' w' g1 g2 g3 g4 g5 g6=>?_;have key:(∃rs,uY P S' fn.results.toList=some rs∧dI ρ' rs=ay)→
    a'.defers=[]∧∃v,(results fn a'.tmps).run P w'= .ok v w'∧∃v',Ending.returned v= .returned v'∧F8 w' (fun b=>N b∨w.heap.size≤b) ay v'∧Below w.heap.size w w':=by
   rintro ⟨rs,h1,h2⟩;obtain ⟨us,i1,i2⟩:=IG g5 h1;rw[h2] at i2;refine ⟨g5.defers,_,Bc i1,_,rfl,⟨us,i2.mono (Nat.le_refl _) fun b hb _=>⟨rfl,?_⟩,rfl⟩,g5.below.os,g5.below.tape,g5.below.output,g5.below.size,fun k hk=>g5.below.block k hk (fun h=>h)⟩;rcases hb with hb|hb|hb
   ·exact .inl hb
   ·exact .inr hb
   ·exact hb.elim
  cases e with
  |exit id=>exact g6.elim
  |normal=>
   refine key ?_;simp only at g6;split at g6
   ·rename_i rs h1;exact ⟨rs,h1,g6⟩
   ·exact g6.elim
  |ret=>
   refine key ?_;simp only at g6;split at g6
   ·rename_i rs h1;exact ⟨rs,h1,g6⟩
   ·exact g6.elim
theorem Jv {N:Nat→Prop}:∀ {s:Sh} {us:List Value} {c:C},s.eX=true→Rd w N s us c→vB s us
 | .int _,_,_,_,_| .bool,_,_,_,_| .str,_,_,_,_| .unit,_,_,_,_=>trivial
 | .sl _,_,_,hp,_| .dh _ _,_,_,hp,_| .mp _ _,_,_,hp,_=>by cases hp
 | .iI,_,_,_,_| .dZ _,_,_,_,_=>trivial
 | .pair a b,_,_,hp,⟨_,va,vb,h1,h2,h3⟩=>by
  simp only[Sh.eX,Bool.and_eq_true] at hp;exact ⟨va,vb,h1,h2.length,Jv hp.1 h2,Jv hp.2 h3⟩
theorem DZ {N:Nat→Prop}:∀ {s:Sh} {e:E} {us:List Value},oC s e=true→Rd w N s us (e.eval ρ)→Exact s e us→vB s us
 | .int _,_,_,_,_,_| .bool,_,_,_,_,_| .str,_,_,_,_,_| .unit,_,_,_,_,_| .iI,_,_,_,_,_| .dZ _,_,_,_,_,_=>trivial
 | .dh _ _,e,_,h,_,_=>by cases e<;>simp[oC] at h
 | .mp _ _,e,_,h,_,_=>by cases e<;>simp[oC] at h
 | .sl s,e,us,h,_,hx=>by
  cases e<;>simp[oC] at h;exact hx
 | .pair a b,e,us,h,hr,hx=>by
  cases e with
  |cons x y=>
   simp only[oC,Bool.and_eq_true] at h;obtain ⟨h0,va,vb,h1,h2,h3⟩:=hr;obtain ⟨na,nb,n1,n2,n3,n4⟩:=hx;obtain ⟨rfl,rfl⟩:va=na∧vb=nb:=List.append_inj (h1.symm.trans n1) (by rw[h2.length,n2]);exact ⟨va,vb,h1,n2,DZ h.1 (by simpa [E.eval] using h2) n3,DZ h.2 (Rd.qE h0 (by simp[E.eval]) h3) n4⟩
  |_=>exact Jv (by simpa [oC,Sh.eX] using h) hr
theorem NC.zP {f:FuncId} {fn:Func} (hf:P.funcs[f]?=some fn) (hname:(fn.name== "runtime.NumGoroutine")=false) {bM:List Sh} {vc:VC} (fI:Zb P cfg hints fn bM=vc)
  {s:Sh} {c1:C} {args:List (Sh×C)} (hs:args.map (·.1)=bM) (h:vc.holds P (fun r=>r=[(s,c1)]) [] (args.map (·.2))):NC P f args [(s,c1)]:=by
 subst fI hs;unfold Zb at h;cases hb:fn.body with
 |none=>simp only[hb] at h;exact h.elim
 |some c=>
  simp only[hb] at h;refine ⟨s,c1,rfl,⟨fn,hf,by simp[hb],hname⟩,fun w N vs aN hrd=>calls_of_wp hf hb ?_⟩;have hst:=Ii aN hrd fn.ntmps;refine EM c hst (by simp[nI]) rfl h fun e S' l' ρ' fJ hv' a' w' g1 g2 g3 g4 g5 g6=>?_;have key:((match fn.results.toList with
   | [.tmp t]=>match S'.ev P [] (.tmp t) 0 with
    |some (.dat s e)=>if oC s e then VC.ret [(s,e)] else .fail 8000004
    |_=> .fail 8000002
   | [.cell t ty]=>match sj P S'.rb [] ty (S'.ev P [] (.tmp t) 0) with
    |some ⟨.dat s e,_,_,_⟩=>if oC s e then VC.ret [(s,e)] else .fail 8000004
    |_=> .fail 8000002
   |_=> .fail 8000002):VC).holds P (fun r=>r=[(s,c1)]) fJ ρ'→
    a'.defers=[]∧∃v,(results fn a'.tmps).run P w'= .ok v w'∧∃us,Ending.returned v= .returned (s.mk us)∧Rd w' (fun b=>N b∨w.heap.size≤b) s us c1∧vB s us∧Below w.heap.size w w':=by
   intro g6;split at g6
   ·rename_i t hres;split at g6
    ·rename_i s' e' hx;split at g6
     ·rename_i hok;simp only[VC.holds,dI,List.map_cons,List.map_nil,List.cons.injEq,Prod.mk.injEq,and_true] at g6;obtain ⟨rfl,rfl⟩:=g6;obtain ⟨us,i1,i2,i3⟩:=bg g5 (aP ρ') hx;have hrun:(fn.results.toList.mapM (mO a'.tmps)).run P w'= .ok [s'.mk us] w':=by
       rw[hres];have:a'.tmps.getD t undef=s'.mk us:=by rw[←i2];simp[Act.eval]
       simp only[List.mapM_cons,List.mapM_nil,mO,this];simp
      have hr:=Bc hrun;simp only[List.length_singleton,dif_pos] at hr;refine ⟨g5.defers,_,hr,us,rfl,i1.mono (Nat.le_refl _) fun b hb _=>⟨rfl,?_⟩,DZ hok i1 i3,g5.below.os,g5.below.tape,g5.below.output,g5.below.size,fun k hk=>g5.below.block k hk (fun h=>h)⟩;rcases hb.1 with hb|hb|hb
      ·exact .inl hb
      ·exact .inr hb
      ·exact hb.elim
     ·exact g6.elim
    ·exact g6.elim
   ·rename_i t ty hres;split at g6
    ·rename_i s' e' cm kD Z5 hx;split at g6
     ·rename_i hok;simp only[VC.holds,dI,List.map_cons,List.map_nil,List.cons.injEq,Prod.mk.injEq,and_true] at g6;obtain ⟨rfl,rfl⟩:=g6;obtain ⟨f1,e1,e2,_,_,u,e3,e4⟩:=Il g5.rows g5.boxes (aP ρ') hx (v:=a'.eval (.tmp t)) fun y hy=>bg g5 (aP ρ') hy;obtain ⟨us,i1,i2,i3⟩:=e4;have h5:=WR e3;have h6:a'.eval (.tmp t)=a'.tmps.getD t undef:=by simp[Act.eval]
      rw[h6] at h5;have h7:(mO a'.tmps (.cell t ty)).run P w'= .ok u w':=h5;have hrun:(fn.results.toList.mapM (mO a'.tmps)).run P w'= .ok [s'.mk us] w':=by
       rw[hres];rw[List.mapM_cons];simp[h7,i2]
      have hr:=Bc hrun;simp only[List.length_singleton,dif_pos] at hr;refine ⟨g5.defers,_,hr,us,rfl,i1.mono (Nat.le_refl _) fun b hb _=>⟨rfl,?_⟩,DZ hok i1 i3,g5.below.os,g5.below.tape,g5.below.output,g5.below.size,fun k hk=>g5.below.block k hk (fun h=>h)⟩;rcases KD g5 e2 (fun _ h=>h.1) hb with hb|hb|hb
      ·exact .inl hb
      ·exact .inr hb
      ·exact hb.elim
     ·exact g6.elim
    ·exact g6.elim
   ·exact g6.elim
  cases e with
  |exit id=>exact g6.elim
  |normal=>exact key g6
  |ret=>exact key g6
theorem II (hrel:aG P N0 w0 ρ S hv a w):∀ {l:List ResultVar} {rs:List (Sh×E)} {fz:List Nat},xA P S l=some (rs,fz)→
  (∀q∈fz,iV S.blks ρ q)∧
  ∃vs,(l.mapM (mO a.tmps)).run P w= .ok vs w∧bZ w (NF (NN N0 w0.own ρ S.blks hv) hv fz) (dI ρ rs) vs
 | [],rs,fz,h=>by
  simp[xA] at h;obtain ⟨rfl,rfl⟩:=h;exact ⟨fun q hq=>by simp at hq,[],by simp,rfl⟩
 | .tmp t::l,rs,fz,h=>by
  simp only[xA] at h;split at h
  ·rename_i s e f r g h1 h2;simp at h;obtain ⟨rfl,rfl⟩:=h;obtain ⟨i0,vs,i1,i2⟩:=II hrel h2;obtain ⟨x,hx,hd⟩:=Option.bind_eq_some_iff.1 h1;have h3:=bg hrel (aP ρ) hx;have h4:=zu (rQ hrel.rows (aP ρ) hd h3);have h5:=vT (aP ρ) hd;refine ⟨fun q hq=>?_,a.tmps.getD t undef::vs,by simp only[List.mapM_cons,mO];simp[i1],_,_,rfl,?_,?_⟩
   ·rcases List.mem_append.1 hq with hq|hq
    ·exact h5 q hq
    ·exact i0 q hq
   ·have e6:a.eval (.tmp t)=a.tmps.getD t undef:=by simp[Act.eval]
    rw[e6] at h4;refine h4.mono (Nat.le_refl _) fun b hb _=>⟨rfl,?_⟩;rcases hb with hb|⟨q,hq,hg⟩
    ·exact .inl hb
    ·exact .inr ⟨q,List.mem_append.2 (.inl hq),hg⟩
   ·refine i2.mono (Nat.le_refl _) fun b hb _=>⟨rfl,?_⟩;rcases hb with hb|⟨q,hq,hg⟩
    ·exact .inl hb
    ·exact .inr ⟨q,List.mem_append.2 (.inr hq),hg⟩
  ·simp at h
 | .cell _ _::_,rs,fz,h=>by simp[xA] at h
theorem TJ {N:Nat→Prop} {G:Nat→Prop} {wi:World} (hrel:aG P N ⟨wi,G⟩ ρ S hv a w) {v0:Value} (hG:∀g,G g↔bD v0=some g) {l:List ResultVar} {rs:List (Sh×E)} (h:Aa P S l=some rs):
  ∃s e rs' v1 vr et xs,rs=(.sl s,e)::rs'∧(l.mapM (mO a.tmps)).run P w= .ok (v1::vr) w∧w.gN (fun g=>wi.heap.size≤g∨bD v0=some g) et s.size v1 (e.eval ρ).toList.length xs∧
   bq w (Behind N wi v0 v1) s xs (e.eval ρ).toList∧bZ w (Behind N wi v0 v1) (dI ρ rs') vr:=by
 have Ch:∀ {b},(Wb.own ⟨wi,G⟩ b)→wi.heap.size≤b∨bD v0=some b:=fun hb=>hb.imp id (hG _).1;unfold Aa at h;split at h
 ·rename_i t l;have e6:a.eval (.tmp t)=a.tmps.getD t undef:=by simp[Act.eval]
  split at h
  ·rename_i r n hx;split at h
   ·rename_i s e LJ fz hor hrf;split at h
    ·rename_i hnr;have hnr:r∉fz:=by simpa using hnr
     simp at h;subst h;obtain ⟨hfz,vs,i1,i2⟩:=II hrel hrf;have hr:=vR hor;have mG:bK S.blks r=some (s,e,[]):=by simp[bK,hr]
     obtain ⟨hv0,_⟩:=(bg hrel (aP ρ) hx).2 s e [] mG (aP ρ);obtain ⟨et,xs,hown,hrd,_⟩:=hrel.rows.row r s e [] mG (aP ρ);have sW:∀b,NN N (Wb.own ⟨wi,G⟩) ρ S.blks hv b→Behind N wi v0 (hv r) b:=by
      intro b hb;refine ⟨hb.1.imp id Ch,hb.2 r _ hr rfl rfl (aP ρ)⟩
     refine ⟨s,e,LJ,hv r,vs,et,xs,rfl,?_,vQ hown fun g _ hg=>Ch hg,hrd.mono (Nat.le_refl _) fun b hb _=>⟨rfl,sW b hb⟩,i2.mono (Nat.le_refl _) fun b hb _=>⟨rfl,?_⟩⟩
     ·rw[e6] at hv0;simp only[List.mapM_cons,mO];simp[i1,hv0]
     ·rcases hb with hb|⟨q,hq,hg⟩
      ·exact sW b hb
      ·obtain ⟨k2,e5,el,e4⟩:=hfz q hq;exact ⟨.inr (Ch (hrel.lt e5 el e4 hg).2),fun hc=>hrel.dist r q _ _ b hr e5 (fun e=>hnr (e▸hq)) rfl el (aP ρ) e4 hc hg⟩
    ·simp at h
   ·simp at h
  ·rename_i s hx;split at h
   ·rename_i LJ fz hrf;simp at h;subst h;obtain ⟨hfz,vs,i1,i2⟩:=II hrel hrf;obtain ⟨us,e1,e2,e3⟩:=bg hrel (aP ρ) hx;simp only[Exact] at e3;subst e3;have hv0:a.tmps.getD t undef= .slice none 0 0:=by rw[←e6,e2];simp[Sh.mk,Sh.isAgg]
    refine ⟨s,.aW,LJ,.slice none 0 0,vs,0,[],rfl,?_,⟨by simp[E.eval],.inl ⟨rfl,by simp[E.eval]⟩⟩,by simp[E.eval,bq],i2.mono (Nat.le_refl _) fun b hb _=>⟨rfl,?_,by simp[bD]⟩⟩
    ·simp only[List.mapM_cons,mO];simp[i1,hv0]
    ·rcases hb with hb|⟨q,hq,hg⟩
     ·exact hb.1.imp id Ch
     ·obtain ⟨k2,e5,el,e4⟩:=hfz q hq;exact .inr (Ch (hrel.lt e5 el e4 hg).2)
   ·simp at h
  ·simp at h
 ·simp at h
theorem aen {s:Sh} {c0:C} {args:List (Sh×C)} {et:TypeId} {xs:List Value} {v0:Value} {vs:List Value} (hs0:0<s.size) (hown:w.gN (fun _=>True) et s.size v0 c0.toList.length xs)
  (hrow:bq w N0 s xs c0.toList) (hne:∀g,bD v0=some g→¬N0 g) (aN:KW P w) (hkb:∀g,bD v0=some g→¬rM P g) (h:bZ w N0 args vs) (n:Nat):
  aG P N0 ⟨w,fun g=>bD v0=some g⟩ (c0::args.map (·.2)) (pz s (args.map (·.1)) n) (fun _=>v0) {tmps:=(v0::vs).toArray++Array.replicate (n-(v0::vs).toArray.size) undef,defers:=[]} w:=by
 have hlen:=D9 h;have hblk:∀(r:Nat) (k:aA),(pz s (args.map (·.1)) n).blks[r]?=some k→k.lb= .none∨(r=n+16∧k=⟨.row s (.vq 0),false,[]⟩):=by
  intro r k hk;simp only[pz] at hk;rw[List.getElem?_append] at hk;split at hk
  ·rw[List.getElem?_replicate] at hk;split at hk
   ·injection hk with hk;subst hk;exact .inl rfl
   ·cases hk
  ·rename_i hge;have hlt:=(List.getElem?_eq_some_iff.1 hk).1;simp only[List.length_replicate,List.length_singleton] at hlt hge;have hr:r=n+16:=by omega
   subst hr;simp at hk;exact .inr ⟨rfl,hk.symm⟩
 have hq:(pz s (args.map (·.1)) n).blks[n+16]?=some ⟨.row s (.vq 0),false,[]⟩:=by
  simp[pz]
 have sW:∀b,N0 b→NN N0 (Wb.own ⟨w,fun g=>bD v0=some g⟩) (c0::args.map (·.2)) (pz s (args.map (·.1)) n).blks (fun _=>v0) b:=
  fun b hb=>⟨.inl hb,fun r k _ _ _ _ hc=>hne b hc hb⟩
 have Dv:∀(t:Nat) (ts:TS),(pz s (args.map (·.1)) n).tmps[t]?=some ts→ts.bG=[]∧(ts.sx= .none∨(t=0∧ts.sx= .full (n+16) (.len (.vq 0)))∨∃j s c,t=j+1∧args[j]?=some (s,c)∧ts.sx= .dat s (.vq t)):=by
  intro t ts ht;simp only[pz] at ht;rw[List.getElem?_append] at ht;split at ht
  ·cases t with
   |zero=>
    simp at ht;subst ht;exact ⟨rfl,.inr (.inl ⟨rfl,rfl⟩)⟩
   |succ j=>
    rw[List.getElem?_cons_succ,List.getElem?_map] at ht;cases hr:(gG 1 (args.map (·.1)))[j]? with
    |none=>simp[hr] at ht
    |some x=>
     obtain ⟨s',e⟩:=x;simp[hr] at ht;subst ht;obtain ⟨h1,h2⟩:=IE _ 1 j s' e hr;rw[List.getElem?_map] at h1;cases ha:args[j]? with
     |none=>simp[ha] at h1
     |some y=>
      obtain ⟨s2,c⟩:=y;simp[ha] at h1;subst h1;rw[Nat.add_comm] at h2;subst h2;exact ⟨rfl,.inr (.inr ⟨j,s2,c,rfl,ha,rfl⟩)⟩
  ·rw[List.getElem?_replicate] at ht;split at ht
   ·injection ht with ht;subst ht;exact ⟨rfl,.inl rfl⟩
   ·cases ht
 refine ⟨rfl,?_,⟨rfl,rfl,rfl,Nat.le_refl _,fun _ _ _=>rfl,aN,fun g hg hb=>hkb g hb hg⟩,fun t ts ht hp=>?_,fun t ts ht hp=>?_,fun r k hr hp=>?_,fun r r' k k' g hr hr' hne' hl hl' _ _ _=>?_⟩
 ·simp[pz,G8,hlen];omega
 ·rcases (Dv t ts ht).2 with h1|⟨rfl,h1⟩|⟨j,s',c,rfl,h1,h2⟩
  ·rw[h1];trivial
  ·rw[h1];refine ⟨⟨_,hq,by simp⟩,fun s' e p hr _=>?_⟩;simp[bK,hq] at hr;obtain ⟨rfl,rfl,rfl⟩:=hr;refine ⟨?_,rfl⟩;have:((v0::vs).toArray++Array.replicate (n-(v0::vs).toArray.size) undef)[0]?=some v0:=by
    rw[Array.getElem?_append_left (by simp)];simp
   rw[Array.getD_eq_getD_getElem?,this];rfl
  ·rw[h2];obtain ⟨v,h3,h4⟩:=JN h h1;have hlt:j<vs.length:=(List.getElem?_eq_some_iff.1 h3).1;have hv:((v0::vs).toArray++Array.replicate (n-(v0::vs).toArray.size) undef).getD (j+1) undef=v:=by
    have:((v0::vs).toArray++Array.replicate (n-(v0::vs).toArray.size) undef)[j+1]?=some v:=by
     rw[Array.getElem?_append_left (by simpa using hlt)];simpa using h3
    rw[Array.getD_eq_getD_getElem?,this];rfl
   simp only[hv];refine qM ?_ (lM (by simp) (by simp));have he:(E.vq (j+1)).eval (c0::args.map (·.2))=c:=by simp[E.eval,List.getD,h1]
   rw[he];exact h4.mono (Nat.le_refl _) fun b hb _=>⟨rfl,sW b hb⟩
 ·exact absurd (by rw[(Dv t ts ht).1];exact aP _) hp
 ·rcases hblk r k hr with h1|⟨rfl,rfl⟩
  ·rw[h1];trivial
  ·exact ⟨et,xs,vQ hown fun g hg _=> .inr hg,hrow.mono (Nat.le_refl _) fun b hb _=>⟨rfl,sW b hb⟩,hs0⟩
 ·rcases hblk r k hr with h1|⟨rfl,rfl⟩
  ·simp[dS,h1] at hl
  ·rcases hblk r' k' hr' with h1|⟨rfl,rfl⟩
   ·simp[dS,h1] at hl'
   ·exact absurd rfl hne'
theorem GC.zP {f:FuncId} {fn:Func} (hf:P.funcs[f]?=some fn) (hname:(fn.name== "runtime.NumGoroutine")=false) {s:Sh} {bM:List Sh} {vc:VC} (fI:K9 P cfg hints fn s bM=vc)
  {c0 c1:C} {args ay:List (Sh×C)} (hs:args.map (·.1)=bM) (h:vc.holds P (fun r=>r=(.sl s,c1)::ay) [] (c0::args.map (·.2))):GC P f ((.sl s,c0)::args) ((.sl s,c1)::ay):=by
 subst fI hs;unfold K9 at h;split at h
 ·rename_i hs0;have hs0:0<s.size:=by simp at hs0;omega
  cases hb:fn.body with
  |none=>simp only[hb] at h;exact h.elim
  |some c=>
   simp only[hb] at h;refine ⟨s,c0,args,c1,ay,rfl,rfl,⟨fn,hf,by simp[hb],hname⟩,fun w N et xs v0 vs aN hkb h1 h2 h3 h4=>calls_of_wp hf hb ?_⟩;have hst:=aen hs0 h1 h2 h3 aN hkb h4 fn.ntmps;refine EM c hst (by simp[pz]) rfl h fun e S' l' ρ' fJ hv' a' w' g1 g2 g3 g4 g5 g6=>?_;have key:(∃rs,Aa P S' fn.results.toList=some rs∧dI ρ' rs=(.sl s,c1)::ay)→
     a'.defers=[]∧∃v,(results fn a'.tmps).run P w'= .ok v w'∧∃v1 vr dG xs',Ending.returned v= .returned (pack (v1::vr))∧w.grownBy w' (bD v0)∧
      w'.gN (fun g=>w.heap.size≤g∨bD v0=some g) dG s.size v1 c1.toList.length xs'∧bq w' (Behind N w v0 v1) s xs' c1.toList∧bZ w' (Behind N w v0 v1) ay vr:=by
    rintro ⟨rs,i1,i2⟩;obtain ⟨s',e',rs',v1,vr,dG,xs',rfl,j1,j2,j3,j4⟩:=TJ g5 (fun g=>Iff.rfl) i1;simp only[dI,List.map_cons,List.cons.injEq,Prod.mk.injEq,Sh.sl.injEq] at i2;obtain ⟨⟨rfl,rfl⟩,rfl⟩:=i2;exact ⟨g5.defers,_,Bc j1,v1,vr,dG,xs',rfl,⟨g5.below.os,g5.below.tape,g5.below.output,g5.below.size,fun k hk hn=>g5.below.block k hk fun hc=>hn hc.symm⟩,j2,j3,j4⟩
   cases e with
   |exit id=>exact g6.elim
   |normal=>
    refine key ?_;simp only at g6;split at g6
    ·rename_i rs h1;exact ⟨rs,h1,g6⟩
    ·exact g6.elim
   |ret=>
    refine key ?_;simp only at g6;split at g6
    ·rename_i rs h1;exact ⟨rs,h1,g6⟩
    ·exact g6.elim
 ·exact h.elim
theorem FC.zP {f:FuncId} {fn:Func} (hf:P.funcs[f]?=some fn) (hname:(fn.name== "runtime.NumGoroutine")=false) {s:Sh} {bM:List Sh} {vc:VC} (fI:La P cfg hints fn bM=vc)
  {c1:C} {args ay:List (Sh×C)} (hs:args.map (·.1)=bM) (h:vc.holds P (fun r=>r=(.sl s,c1)::ay) [] (args.map (·.2))):FC P f args ((.sl s,c1)::ay):=by
 subst fI hs;unfold La at h;cases hb:fn.body with
 |none=>simp only[hb] at h;exact h.elim
 |some c=>
  simp only[hb] at h;refine ⟨s,c1,ay,rfl,⟨fn,hf,by simp[hb],hname⟩,fun w N vs aN hrd=>calls_of_wp hf hb ?_⟩;have hst:=Ii aN hrd fn.ntmps;refine EM c hst (by simp[nI]) rfl h fun e S' l' ρ' fJ hv' a' w' g1 g2 g3 g4 g5 g6=>?_;have key:(∃rs,Aa P S' fn.results.toList=some rs∧dI ρ' rs=(.sl s,c1)::ay)→
    a'.defers=[]∧∃v,(results fn a'.tmps).run P w'= .ok v w'∧∃v1 vr dG xs',Ending.returned v= .returned (pack (v1::vr))∧Below w.heap.size w w'∧
     w'.gN (fun g=>w.heap.size≤g) dG s.size v1 c1.toList.length xs'∧bq w' (Behind N w (.slice none 0 0) v1) s xs' c1.toList∧bZ w' (Behind N w (.slice none 0 0) v1) ay vr:=by
   rintro ⟨rs,i1,i2⟩;obtain ⟨s',e',rs',v1,vr,dG,xs',rfl,j1,j2,j3,j4⟩:=TJ g5 (v0:= .slice none 0 0) (fun g=>⟨False.elim,fun h=>by cases h⟩) i1;simp only[dI,List.map_cons,List.cons.injEq,Prod.mk.injEq,Sh.sl.injEq] at i2;obtain ⟨⟨rfl,rfl⟩,rfl⟩:=i2;exact ⟨g5.defers,_,Bc j1,v1,vr,dG,xs',rfl,⟨g5.below.os,g5.below.tape,g5.below.output,g5.below.size,fun k hk=>g5.below.block k hk id⟩,vQ j2 fun g _ hg=>hg.elim id (fun h=>by cases h),j3,j4⟩
  cases e with
  |exit id=>exact g6.elim
  |normal=>
   refine key ?_;simp only at g6;split at g6
   ·rename_i rs h1;exact ⟨rs,h1,g6⟩
   ·exact g6.elim
  |ret=>
   refine key ?_;simp only at g6;split at g6
   ·rename_i rs h1;exact ⟨rs,h1,g6⟩
   ·exact g6.elim
end
end Go.Vc
namespace Go.Vc
structure rJ where
 grow:List Nat:=[]
 fresh:List Nat:=[]
 Gg:List Nat:=[]
 xB:List (Nat×Sh):=[]
 ay:List (Nat×List Sh):=[]
 cuts:List Nat:=[]
def Lb (P:Program) (opt:rJ) (fn:Func):Option (List Sh):=fn.params.toList.zipIdx.mapM fun x=>match opt.xB.find? (·.1==x.2) with|some (_,s)=>some s|none=>qg P x.1
def rJ.cfg (o:rJ) (raw:Bool) (c:Code):bU:= {raw,rows:=aiT c,grow:=o.grow,fresh:=o.fresh,Gg:=o.Gg,keeps:=ajh c,ay:=o.ay,marks:=marksOf c,cuts:=o.cuts}
def aQ (P:Program) (raw:Bool) (opt:rJ) (hints:List Hint) (fn:Func):List Sh×VC:=
 match Lb P opt fn,fn.body with
 |some bM,some c=>(bM,LA P (opt.cfg raw c) hints fn bM)
 |_,_=>([],.fail 9000000)
def Fw (P:Program) (raw:Bool) (opt:rJ) (hints:List Hint) (fn:Func):List Sh×VC:=
 match Lb P opt fn,fn.body with
 |some (.sl s::bM),some c=>(.sl s::bM,K9 P (opt.cfg raw c) hints fn s bM)
 |_,_=>([],.fail 9000000)
def BU (P:Program) (raw:Bool) (opt:rJ) (hints:List Hint) (fn:Func):List Sh×VC:=
 match Lb P opt fn,fn.body with
 |some bM,some c=>(bM,La P (opt.cfg raw c) hints fn bM)
 |_,_=>([],.fail 9000000)
theorem PC.auto {P:Program} {raw:Bool} {opt:rJ} {hints:List Hint} {f:FuncId} {fn:Func} (hlt:f<1000000) (hf:P.funcs[f]?=some fn) (hname:(fn.name== "runtime.NumGoroutine")=false) {bM:List Sh} {vc:VC}
  (fI:aQ P raw opt hints fn=(bM,vc)) {args ay:List (Sh×C)} (hs:args.map (·.1)=bM) (h:vc.holds P (fun r=>r=ay) [] (args.map (·.2))):PC P f args ay:=by
 unfold aQ at fI;split at fI
 ·simp only[Prod.mk.injEq] at fI;exact PC.zP hlt hf hname fI.2 (hs.trans fI.1.symm) h
 ·simp only[Prod.mk.injEq] at fI;rw[←fI.2] at h;exact h.elim
theorem PC.Zf {P:Program} {raw:Bool} {opt:rJ} {hints:List Hint} {f:FuncId} {fn:Func} (hlt:f<1000000) (hf:P.funcs[f]?=some fn) (hname:(fn.name== "runtime.NumGoroutine")=false) {s:Sh} {bM:List Sh} {vc:VC}
  (fI:Fw P raw opt hints fn=(.sl s::bM,vc)) {c0 c1:C} {args ay:List (Sh×C)} (hs:args.map (·.1)=bM) (h:vc.holds P (fun r=>r=(.sl s,c1)::ay) [] (c0::args.map (·.2))):
  PC P (1000000+f) ((.sl s,c0)::args) ((.sl s,c1)::ay):=by
 unfold Fw at fI;split at fI
 ·simp only[Prod.mk.injEq,List.cons.injEq,Sh.sl.injEq] at fI;obtain ⟨⟨rfl,h1⟩,h2⟩:=fI;exact PC.ofG hlt (GC.zP hf hname h2 (hs.trans h1.symm) h)
 ·simp only[Prod.mk.injEq] at fI;rw[←fI.2] at h;exact h.elim
theorem PC.Ld {P:Program} {raw:Bool} {opt:rJ} {hints:List Hint} {f:FuncId} {fn:Func} (hlt:f<1000000) (hf:P.funcs[f]?=some fn) (hname:(fn.name== "runtime.NumGoroutine")=false) {s:Sh} {bM:List Sh} {vc:VC}
  (fI:BU P raw opt hints fn=(bM,vc)) {c1:C} {args ay:List (Sh×C)} (hs:args.map (·.1)=bM) (h:vc.holds P (fun r=>r=(.sl s,c1)::ay) [] (args.map (·.2))):
  PC P (2000000+f) args ((.sl s,c1)::ay):=by
 unfold BU at fI;split at fI
 ·simp only[Prod.mk.injEq] at fI;exact PC.ofF hlt (FC.zP hf hname fI.2 (hs.trans fI.1.symm) h)
 ·simp only[Prod.mk.injEq] at fI;rw[←fI.2] at h;exact h.elim
end Go.Vc
namespace Go.Vc
abbrev Vp (P:Program) (f:FuncId) (bM:List Sh) (vc:VC):Prop:=∀ {args ay:List (Sh×C)},args.map (·.1)=bM→vc.holds P (fun r=>r=ay) [] (args.map (·.2))→PC P f args ay
theorem Vp.mk {P:Program} {opt:rJ} {hints:List Hint} {f:FuncId} {fn:Func} (hlt:f<1000000) (hf:P.funcs[f]?=some fn) (hname:(fn.name== "runtime.NumGoroutine")=false) {bM:List Sh} {vc:VC} (fI:aQ P true opt hints fn=(bM,vc)):Vp P f bM vc:=fun hs h=>PC.auto hlt hf hname fI hs h
end Go.Vc
namespace Go.Vc
section
variable {P:Program} {Post:List (Sh×C)→Prop} {B:List (List C→Prop)} {ρ:List C} {p:aM} {e:E} {k a b:VC}
theorem VC.YR:(VC.ah p e k).holds P Post B ρ=((aR ρ p→(e.eval ρ).toBool=true)∧k.holds P Post B ρ):=id rfl
theorem VC.YQ:(VC.cond e a b).holds P Post B ρ=(((e.eval ρ).toBool=true→a.holds P Post B ρ)∧((e.eval ρ).toBool=false→b.holds P Post B ρ)):=id rfl
theorem VC.Zh:(VC.yg e a b).holds P Post B ρ=(((e.eval ρ).toList=[]→a.holds P Post B ρ)∧b.holds P Post B ρ):=id rfl
theorem VC.Zg {rs:List (Sh×E)}:(VC.ret rs).holds P Post B ρ=Post (dI ρ rs):=id rfl
theorem VC.KQ {lvl:Nat} {es:List E}:(VC.back lvl es).holds P Post B ρ=(B.getD lvl fun _=>False) (es.map (·.eval ρ)):=id rfl
theorem VC.KP {f:Nat} {args:List (Sh×E)} {ay:List Sh}:(VC.call p f args ay k).holds P Post B ρ=
  ∃res:List C,res.length=ay.length∧(aR ρ p→PC P f (dI ρ args) (ay.zip res))∧k.holds P Post B (ρ++res):=id rfl
theorem VC.XK {f:Nat} {args:List (Sh×E)} {r:Sh}:(VC.call p f args [r] k).holds P Post B ρ=
  ∃x:C,(aR ρ p→PC P f (dI ρ args) [(r,x)])∧k.holds P Post B (ρ++ [x]):=by
 apply propext;rw[VC.KP];constructor
 ·rintro ⟨res,h,h1,h2⟩;match res,h with
  | [x],_=>exact ⟨x,h1,h2⟩
 ·rintro ⟨x,h1,h2⟩;exact ⟨[x],rfl,h1,h2⟩
theorem VC.XJ {f:Nat} {args:List (Sh×E)} {r r':Sh}:(VC.call p f args [r,r'] k).holds P Post B ρ=
  ∃x y:C,(aR ρ p→PC P f (dI ρ args) [(r,x),(r',y)])∧k.holds P Post B (ρ++ [x,y]):=by
 apply propext;rw[VC.KP];constructor
 ·rintro ⟨res,h,h1,h2⟩;match res,h with
  | [x,y],_=>exact ⟨x,y,h1,h2⟩
 ·rintro ⟨x,y,h1,h2⟩;exact ⟨[x,y],rfl,h1,h2⟩
theorem VC.XI {f:Nat} {args:List (Sh×E)} {r r' r'':Sh}:(VC.call p f args [r,r',r''] k).holds P Post B ρ=
  ∃x y z:C,(aR ρ p→PC P f (dI ρ args) [(r,x),(r',y),(r'',z)])∧k.holds P Post B (ρ++ [x,y,z]):=by
 apply propext;rw[VC.KP];constructor
 ·rintro ⟨res,h,h1,h2⟩;match res,h with
  | [x,y,z],_=>exact ⟨x,y,z,h1,h2⟩
 ·rintro ⟨x,y,z,h1,h2⟩;exact ⟨[x,y,z],rfl,h1,h2⟩
end
def GR (B B':List (List C→Prop)):Prop:=B.length=B'.length∧∀(i:Nat) (f g:List C→Prop) (vs:List C),B[i]?=some f→B'[i]?=some g→f vs→g vs
theorem GR.snoc {B B':List (List C→Prop)} (h:GR B B') (f:List C→Prop):GR (B++ [f]) (B'++ [f]):=by
 refine ⟨by simp[h.1],fun i g g' vs h1 h2 h3=>?_⟩;by_cases hi:i<B.length
 ·rw[List.getElem?_append_left hi] at h1;rw[List.getElem?_append_left (by rw[←h.1];exact hi)] at h2;exact h.2 i g g' vs h1 h2 h3
 ·have hi':i=B.length:=by
   have:=(List.getElem?_eq_some_iff.1 h1).1;simp at this;omega
  subst hi';rw[List.getElem?_append_right (Nat.le_refl _)] at h1;rw[List.getElem?_append_right (by rw[h.1];exact Nat.le_refl _)] at h2;rw[h.1] at h2;simp at h1 h2;subst h1 h2;exact h3
theorem VC.qA {P:Program} {Post:List (Sh×C)→Prop}:∀ {B B':List (List C→Prop)} {ρ:List C} (_:GR B B') (k:VC),k.holds P Post B ρ→k.holds P Post B' ρ
 |_,_,_,_,.fail _,h=>h
 |_,_,_,hb,.ah _ _ k,h=>⟨h.1,VC.qA hb k h.2⟩
 |_,_,_,hb,.call _ _ _ _ k,h=>let ⟨res,h1,h2,h3⟩:=h;⟨res,h1,h2,VC.qA hb k h3⟩
 |_,_,_,hb,.cond _ a b,h=>⟨fun hc=>VC.qA hb a (h.1 hc),fun hc=>VC.qA hb b (h.2 hc)⟩
 |_,_,_,hb,.yg _ a b,h=>⟨fun hc=>VC.qA hb a (h.1 hc),VC.qA hb b h.2⟩
 |_,_,_,_,.ret _,h=>h
 |_,_,_,hb,.loop _ k,h=>let ⟨I,μ,h1,h2⟩:=h;⟨I,μ,h1,fun vs hl hi=>VC.qA (hb.snoc _) k (h2 vs hl hi)⟩
 |_,_,_,hb,.cut _ k r,h=>let ⟨I,h1,h2⟩:=h;⟨I,VC.qA (hb.snoc _) k h1,fun vs hl hi=>VC.qA hb r (h2 vs hl hi)⟩
 |B,B',ρ,hb,.back lvl es,h=>by
  simp only[VC.KQ,List.getD_eq_getElem?_getD] at h ⊢;cases h1:B[lvl]? with
  |none=>rw[h1] at h;exact h.elim
  |some f=>
   rw[h1] at h;have hlt:lvl<B'.length:=by
    have:=(List.getElem?_eq_some_iff.1 h1).1;have:=hb.1;omega
   rw[List.getElem?_eq_getElem hlt];exact hb.2 lvl f _ _ h1 (List.getElem?_eq_getElem hlt) h
section
variable {P:Program} {Post:List (Sh×C)→Prop} {B:List (List C→Prop)} {ρ:List C} {p:aM} {e:E} {k a b:VC}
theorem VC.go_meet {n:Nat} {b r:VC} (LH:List C) (h1:b.holds P Post (B++ [fun vs=>vs=LH]) ρ) (h2:r.holds P Post B (ρ++LH)):(VC.cut n b r).holds P Post B ρ:=⟨fun vs=>vs=LH,h1,fun vs _ h=>by rw[h];exact h2⟩
theorem VC.go_loop {init:List E} {St:Type} (enc:St→List C) (I:St→Prop) (μ:St→Nat) (s0:St) (h0:init.map (·.eval ρ)=enc s0) (hI:I s0)
  (h:∀s,I s→k.holds P Post (B++ [fun vs=>∃s',vs=enc s'∧I s'∧μ s'<μ s]) (ρ++enc s)):(VC.loop init k).holds P Post B ρ:=by
 classical
 let Q:List C→Nat→Prop:=fun vs m=>∃s,vs=enc s∧I s∧μ s=m
 have least:∀vs m,Q vs m→∃m0,Q vs m0∧∀m',Q vs m'→m0≤m':=by
  intro vs m;induction m using Nat.strongRecOn with
  |ind m ih=>
   intro hm;by_cases hx:∃m',m'<m∧Q vs m'
   ·obtain ⟨m',h1,h2⟩:=hx;exact ih m' h1 h2
   ·exact ⟨m,hm,fun m' hm'=>Nat.le_of_not_lt fun hlt=>hx ⟨m',hlt,hm'⟩⟩
 let ν:List C→Nat:=fun vs=>if hx:∃m,Q vs m∧∀m',Q vs m'→m≤m' then Classical.choose hx else 0
 have hν:∀vs,(∃s,vs=enc s∧I s)→Q vs (ν vs)∧∀m',Q vs m'→ν vs≤m':=by
  rintro vs ⟨s,h1,h2⟩;have hx:∃m,Q vs m∧∀m',Q vs m'→m≤m':=least vs (μ s) ⟨s,h1,h2,rfl⟩;have he:ν vs=Classical.choose hx:=dif_pos hx;rw[he];exact Classical.choose_spec hx
 refine ⟨fun vs=>∃s,vs=enc s∧I s,ν,⟨s0,h0,hI⟩,fun vs _ hvs=>?_⟩;obtain ⟨⟨s,h1,h2,h3⟩,_⟩:=hν vs hvs;have hs:=h s h2;rw[←h1] at hs;refine VC.qA ?_ k hs;refine ⟨by simp,fun i f g vs' hf hg hfv=>?_⟩;by_cases hi:i<B.length
 ·rw[List.getElem?_append_left hi] at hf hg;rw[hf] at hg;cases hg;exact hfv
 ·have hi':i=B.length:=by
   have:=(List.getElem?_eq_some_iff.1 hf).1;simp at this;omega
  subst hi';simp at hf hg;subst hf hg;obtain ⟨s',g1,g2,g3⟩:=hfv;refine ⟨⟨s',g1,g2⟩,?_⟩;have:=(hν vs' ⟨s',g1,g2⟩).2 (μ s') ⟨s',g1,g2,rfl⟩;omega
end
theorem VA (ρ:List C):aR ρ []=True:=by simp[aR]
theorem UN (ρ:List C) (e:E) (b:Bool) (l:aM):aR ρ ((e,b)::l)=((e.eval ρ).toBool=b∧aR ρ l):=by simp[aR]
section
variable {c:Prop} [Decidable c] {x y:C} {b:Bool}
theorem Tt:(if c then x else y).toBool=if c then x.toBool else y.toBool:=by split<;>rfl
theorem Uw:(if c then x else y).toInt=if c then x.toInt else y.toInt:=by split<;>rfl
theorem Tq:(if c then x else y).toList=if c then x.toList else y.toList:=by split<;>rfl
theorem Uv:(if c then x else y).toStr=if c then x.toStr else y.toStr:=by split<;>rfl
theorem WT {a b:Int}:(if c then C.int a else C.int b)=C.int (if c then a else b):=by split<;>rfl
theorem JI {a b:Bool}:(if c then C.bool a else C.bool b)=C.bool (if c then a else b):=by split<;>rfl
theorem X9 {a b:List C}:(if c then C.ls a else C.ls b)=C.ls (if c then a else b):=by split<;>rfl
theorem Ww {a b:List UInt8}:(if c then C.str a else C.str b)=C.str (if c then a else b):=by split<;>rfl
theorem Z0:((if c then true else b)=true)=(c∨b=true):=by by_cases h:c<;>simp[h]
theorem Z4:((if c then true else b)=false)=(¬c∧b=false):=by by_cases h:c<;>simp[h]
theorem LD:((if c then b else false)=true)=(c∧b=true):=by by_cases h:c<;>simp[h]
theorem ZT:((if c then b else false)=false)=(¬c∨b=false):=by by_cases h:c<;>simp[h]
theorem Zr:((!b)=true)=(b=false):=by cases b<;>simp
theorem Zt:((!b)=false)=(b=true):=by cases b<;>simp
theorem Z7 {α:Type} {a b:α}:(¬a≠b)=(a=b):=by simp
end
section
variable (ρ:List C) (x y z:E) (n:Int)
theorem Yj (i:Nat):(E.vq i).eval ρ=ρ.getD i default:=id rfl
theorem Yx:(E.int n).eval ρ= .int n:=id rfl
theorem Xp (b:Bool):(E.bool b).eval ρ= .bool b:=id rfl
theorem Yl (s:List UInt8):(E.str s).eval ρ= .str s:=id rfl
theorem Yp:E.nil.eval ρ= .ls []:=id rfl
theorem Xf:E.aW.eval ρ= .ls []:=id rfl
theorem Xo:(E.cons x y).eval ρ= .ls (x.eval ρ::(y.eval ρ).toList):=id rfl
theorem Zd:(E.hd x).eval ρ=(x.eval ρ).hd:=id rfl
theorem Zc:(E.tl x).eval ρ=(x.eval ρ).tl:=id rfl
theorem Xl (j:Nat):(E.kJ j x y).eval ρ=(x.eval ρ).kJ j (y.eval ρ):=id rfl
theorem YE (o:BinOp) (k:IntKind):(E.bin o k x y).eval ρ= .int (arith o k (x.eval ρ).toInt (y.eval ρ).toInt):=id rfl
theorem YH:(E.raw .add x y).eval ρ= .int ((x.eval ρ).toInt+(y.eval ρ).toInt):=id rfl
theorem W9:(E.raw .sub x y).eval ρ= .int ((x.eval ρ).toInt-(y.eval ρ).toInt):=id rfl
theorem Yr:(E.raw .mul x y).eval ρ= .int ((x.eval ρ).toInt*(y.eval ρ).toInt):=id rfl
theorem YB:(E.cmp .eql x y).eval ρ= .bool (decide ((x.eval ρ).toInt=(y.eval ρ).toInt)):=by simp[E.eval,iO,BEq.beq]
theorem Yq:(E.cmp .neq x y).eval ρ= .bool (decide ((x.eval ρ).toInt≠(y.eval ρ).toInt)):=by simp[E.eval,iO,bne,BEq.beq]
theorem Yt:(E.cmp .lss x y).eval ρ= .bool (decide ((x.eval ρ).toInt<(y.eval ρ).toInt)):=id rfl
theorem Yu:(E.cmp .leq x y).eval ρ= .bool (decide ((x.eval ρ).toInt≤(y.eval ρ).toInt)):=id rfl
theorem Yz:(E.cmp .gtr x y).eval ρ= .bool (decide ((y.eval ρ).toInt<(x.eval ρ).toInt)):=id rfl
theorem YA:(E.cmp .geq x y).eval ρ= .bool (decide ((y.eval ρ).toInt≤(x.eval ρ).toInt)):=id rfl
theorem Xe:(E.mF .eql x y).eval ρ= .bool (decide ((x.eval ρ).toStr=(y.eval ρ).toStr)):=by
 simp only[E.eval,qd];congr 1;by_cases h:(x.eval ρ).toStr=(y.eval ρ).toStr<;>simp[h]
theorem Xb:(E.mF .neq x y).eval ρ= .bool (decide ((x.eval ρ).toStr≠(y.eval ρ).toStr)):=by
 simp only[E.eval,qd];congr 1;by_cases h:(x.eval ρ).toStr=(y.eval ρ).toStr<;>simp[h]
theorem YF:(E.beq x y).eval ρ= .bool (decide ((x.eval ρ).toBool=(y.eval ρ).toBool)):=by
 simp only[E.eval];congr 1
theorem Yo:(E.not x).eval ρ= .bool !(x.eval ρ).toBool:=id rfl
theorem Yw:(E.ite x y z).eval ρ=if (x.eval ρ).toBool=true then y.eval ρ else z.eval ρ:=id rfl
theorem Xn (k:IntKind):(E.conv k x).eval ρ= .int (k.wrap (x.eval ρ).toInt):=id rfl
theorem WZ (k:IntKind):(E.zY k x).eval ρ= .int (k.wrap (BitVec.ofInt k.bits (if k.signed then-1 else k.max)^^^BitVec.ofInt k.bits (x.eval ρ).toInt).toNat):=id rfl
theorem Yv:(E.len x).eval ρ= .int (x.eval ρ).toList.length:=id rfl
theorem Xc:(E.fG x).eval ρ= .int (x.eval ρ).toStr.length:=id rfl
theorem Yy:(E.idx x y).eval ρ=(x.eval ρ).toList.getD (y.eval ρ).toInt.toNat default:=id rfl
theorem Xd:(E.uX x y).eval ρ= .int ((x.eval ρ).toStr.getD (y.eval ρ).toInt.toNat 0).toNat:=id rfl
theorem Yk:(E.sub x y z).eval ρ= .ls (((x.eval ρ).toList.take (z.eval ρ).toInt.toNat).drop (y.eval ρ).toInt.toNat):=id rfl
theorem Xa:(E.qR x y z).eval ρ= .str (((x.eval ρ).toStr.take (z.eval ρ).toInt.toNat).drop (y.eval ρ).toInt.toNat):=id rfl
theorem YG:(E.app x y).eval ρ= .ls ((x.eval ρ).toList++(y.eval ρ).toList):=id rfl
theorem Ym:(E.set x y z).eval ρ= .ls ((x.eval ρ).toList.set (y.eval ρ).toInt.toNat (z.eval ρ)):=id rfl
theorem Yn:(E.rep x y).eval ρ= .ls (List.replicate (x.eval ρ).toInt.toNat (y.eval ρ)):=id rfl
theorem Vb:(E.splice x y z).eval ρ= .ls (Vc.splice (x.eval ρ).toList (y.eval ρ).toInt.toNat (z.eval ρ).toList):=id rfl
theorem VW:(E.toStr x).eval ρ= .str (bytesOf (x.eval ρ).toList):=id rfl
theorem VX:(E.ofStr x).eval ρ= .ls (ofBytes (x.eval ρ).toStr):=id rfl
theorem YD:(E.cat x y).eval ρ= .str ((x.eval ρ).toStr++(y.eval ρ).toStr):=id rfl
theorem Xh:(E.qY x y).eval ρ= .int (min (x.eval ρ).toInt (y.eval ρ).toInt):=id rfl
theorem Xk:(E.xD x y).eval ρ= .int (max (x.eval ρ).toInt (y.eval ρ).toInt):=id rfl
theorem YC (s:Sh):(E.xZ s x y).eval ρ= .bool (jq s (x.eval ρ) (y.eval ρ)):=id rfl
theorem Vd:(E.fits .i64 x).eval ρ= .bool (decide (-9223372036854775808≤(x.eval ρ).toInt∧(x.eval ρ).toInt≤9223372036854775807)):=id rfl
theorem Xj:(E.fH x y z).eval ρ=(match fE (x.eval ρ).toList (y.eval ρ).toInt with|some d=>d.tl.hd|none=>z.eval ρ):=id rfl
theorem Xi:(E.nQ x y).eval ρ= .bool (fE (x.eval ρ).toList (y.eval ρ).toInt).isSome:=id rfl
theorem Xg:(E.iy x y z).eval ρ= .ls (jG (x.eval ρ).toList (y.eval ρ).toInt (z.eval ρ)):=id rfl
theorem VY:(E.xq x y).eval ρ= .int (Utf8.decode ⟨(x.eval ρ).toStr.toArray⟩ (y.eval ρ).toInt.toNat).1:=id rfl
theorem Xm:(E.vv x y).eval ρ= .int (Utf8.decode ⟨(x.eval ρ).toStr.toArray⟩ (y.eval ρ).toInt.toNat).2:=id rfl
theorem YK:dI ρ []=[]:=id rfl
theorem Xr (s:Sh) (l:List (Sh×E)):dI ρ ((s,x)::l)=(s,x.eval ρ)::dI ρ l:=id rfl
theorem bL:(C.int n).toInt=n:=id rfl
theorem gH (b:Bool):(C.bool b).toBool=b:=id rfl
theorem YS (s:List UInt8):(C.str s).toStr=s:=id rfl
theorem dY (l:List C):(C.ls l).toList=l:=id rfl
theorem eT (c:C) (l:List C):(C.ls (c::l)).hd=c:=id rfl
theorem gQ (c:C) (l:List C):(C.ls (c::l)).tl= .ls l:=id rfl
theorem V3 {α:Type} (a d:α) (l:List α):(a::l).getD 0 d=a:=id rfl
theorem V4 {α:Type} (a d:α) (l:List α) (n:Nat):(a::l).getD (n+1) d=l.getD n d:=id rfl
theorem V5 {α:Type} (a:α) (l m:List α):(a::l)++m=a::(l++m):=id rfl
theorem Xq {α:Type} (l:List α): []++l=l:=id rfl
end
@[simp] theorem rW (n:Int):IntKind.u8.wrap n=n%256:=by simp[IntKind.wrap,IntKind.bits,IntKind.signed]
@[simp] theorem za (n:Int):IntKind.u16.wrap n=n%65536:=by simp[IntKind.wrap,IntKind.bits,IntKind.signed]
@[simp] theorem Wn (n:Int):IntKind.u32.wrap n=n%4294967296:=by simp[IntKind.wrap,IntKind.bits,IntKind.signed]
@[simp] theorem qD (n:Int):IntKind.u64.wrap n=n%18446744073709551616:=by simp[IntKind.wrap,IntKind.bits,IntKind.signed]
theorem JO (n:Int):IntKind.i64.wrap n=(n+9223372036854775808)%18446744073709551616-9223372036854775808:=by
 simp[IntKind.wrap,IntKind.bits,IntKind.signed];split<;>omega
theorem kS {n:Int} (h: -9223372036854775808≤n∧n<9223372036854775808):IntKind.i64.wrap n=n:=by rw[JO];omega
@[simp] theorem X7:IntKind.i64.min= -9223372036854775808:=rfl
@[simp] theorem X8:IntKind.i64.max=9223372036854775807:=rfl
@[simp] theorem ahm (k:IntKind) (x y:Int):arith .add k x y=k.wrap (x+y):=rfl
@[simp] theorem alM (k:IntKind) (x y:Int):arith .sub k x y=k.wrap (x-y):=rfl
@[simp] theorem ahl (k:IntKind) (x y:Int):arith .mul k x y=k.wrap (x*y):=rfl
theorem EI (k:IntKind) (x y:Int) (h:0≤x):arith .quo k x y=k.wrap (x/y):=by simp only[arith];rw[Int.tdiv_eq_ediv_of_nonneg h]
theorem BA (k:IntKind) (x y:Int) (h:0≤x):arith .rem k x y=x%y:=by simp only[arith];rw[Int.tmod_eq_emod_of_nonneg h]
theorem vY (k:IntKind) (x y:Int):arith .shl k x y=k.wrap (x*2^(min y.toNat k.bits)):=rfl
theorem tX (k:IntKind) (x y:Int):arith .shr k x y=x/2^(min y.toNat k.bits):=by
 simp only[arith];exact Int.fdiv_eq_ediv_of_nonneg _ (Int.pow_nonneg (by decide))
theorem Eu (w a:Nat):BitVec.ofInt w (a:Int)=BitVec.ofNat w a:=BitVec.ofInt_natCast w a
theorem ahp {k:IntKind} {n:Nat} (h:n<2^(k.bits-1)):k.wrap (n:Int)=n:=by
 cases k<;>simp[IntKind.wrap,IntKind.bits,IntKind.signed] at h ⊢ <;>omega
theorem Ur {k:IntKind} (hs:k.signed=false) {n:Nat} (h:n<2^k.bits):k.wrap (n:Int)=n:=by
 cases k<;>simp[IntKind.wrap,IntKind.bits,IntKind.signed] at h hs ⊢ <;>omega
section
variable {k:IntKind} {a b:Nat}
theorem ajA (ha:a<2^k.bits) (hb:b<2^k.bits):(BitVec.ofInt k.bits (a:Int)&&&BitVec.ofInt k.bits (b:Int)).toNat=a&&&b:=by
 rw[Eu,Eu,BitVec.toNat_and,BitVec.toNat_ofNat,BitVec.toNat_ofNat,Nat.mod_eq_of_lt ha,Nat.mod_eq_of_lt hb]
theorem XZ (ha:a<2^k.bits) (hb:b<2^k.bits):(BitVec.ofInt k.bits (a:Int)|||BitVec.ofInt k.bits (b:Int)).toNat=a|||b:=by
 rw[Eu,Eu,BitVec.toNat_or,BitVec.toNat_ofNat,BitVec.toNat_ofNat,Nat.mod_eq_of_lt ha,Nat.mod_eq_of_lt hb]
theorem Uq (hs:k.signed=false) (ha:a<2^k.bits) (hb:b<2^k.bits):arith .and k a b=((a&&&b:Nat):Int):=by
 simp only[arith,ajA ha hb];exact Ur hs (Nat.and_lt_two_pow _ hb)
theorem BD (hs:k.signed=false) (ha:a<2^k.bits) (hb:b<2^k.bits):arith .or k a b=((a|||b:Nat):Int):=by
 simp only[arith,XZ ha hb];exact Ur hs (Nat.or_lt_two_pow ha hb)
theorem WU (h:a<2^(k.bits-1)):a<2^k.bits:=Nat.lt_of_lt_of_le h (Nat.pow_le_pow_right (by decide) (Nat.sub_le _ _))
theorem Vl (ha:a<2^(k.bits-1)) (hb:b<2^(k.bits-1)):arith .or k a b=((a|||b:Nat):Int):=by
 simp only[arith,XZ (WU ha) (WU hb)];exact ahp (Nat.or_lt_two_pow ha hb)
end
abbrev B (b:List UInt8):C:= .ls (ofBytes b)
def u8 (x:Int):UInt8:=UInt8.ofNat (x%256).toNat
@[simp] theorem alJ:ofBytes []=[]:=rfl
@[simp] theorem bC (b:List UInt8):(ofBytes b).length=b.length:=by simp[ofBytes]
theorem AZ (b:List UInt8) (n:Nat):(ofBytes b).take n=ofBytes (b.take n):=by simp[ofBytes]
theorem yD (b:List UInt8) (n:Nat):(ofBytes b).drop n=ofBytes (b.drop n):=by simp[ofBytes]
theorem lI (a b:List UInt8):ofBytes a++ofBytes b=ofBytes (a++b):=by simp[ofBytes]
theorem Ij (n:Nat):List.replicate n (C.int 0)=ofBytes (List.replicate n 0):=by simp[ofBytes]
theorem qy (b:List UInt8) (i:Nat) (x:UInt8):(ofBytes b).set i (.int x.toNat)=ofBytes (b.set i x):=by
 simp[ofBytes,List.map_set]
theorem jg (b:List UInt8) (i:Nat):(ofBytes b).getD i default= .int (b.getD i 0).toNat:=by
 simp only[ofBytes,List.getD,List.getElem?_map];cases b[i]?<;>rfl
theorem PW (b m:List UInt8) (i:Nat):splice (ofBytes b) i (ofBytes m)=ofBytes (splice b i m):=by simp[splice,ofBytes]
@[simp] theorem yx (b:List UInt8):bytesOf (ofBytes b)=b:=by
 simp only[bytesOf,ofBytes,List.map_map];conv=>rhs;rw[←List.map_id b]
 apply List.map_congr_left;intro x _;simp
@[simp] theorem alK:bytesOf []=[]:=rfl
theorem QE (b:List UInt8) (i:Nat):(b.getD i 0).toNat<256:=UInt8.toNat_lt _
@[simp] theorem alO (a b:List UInt8):qd .eql a b=decide (a=b):=by
 by_cases h:a=b
 ·simp[qd,h]
 ·simp[qd,h]
@[simp] theorem alN (a b:List UInt8):qd .neq a b=decide (a≠b):=by
 by_cases h:a=b
 ·simp[qd,h]
 ·simp[qd,h]
abbrev zG (l:List Nat):List C:=l.map fun n:Nat=> .int (n:Int)
abbrev Ns (l:List Nat):C:= .ls (zG l)
theorem DV (l:List Nat) (i:Nat) (h:i<l.length):(zG l).getD i default= .int (l.getD i 0:Nat):=by
 simp[List.getD,h]
theorem Sr (l:List Nat) (n:Nat):zG l++ [.int (n:Int)]=zG (l++ [n]):=by simp
theorem jU (v:Nat):IntKind.u8.wrap (v:Int)=((UInt8.ofNat v).toNat:Int):=by
 simp only[rW,UInt8.toNat_ofNat'];omega
theorem EZ {α:Type} {e:α→C} {P:α→Prop}:∀ {l:List C},(∀x∈l,∃a,x=e a∧P a)→∃bs:List α,l=bs.map e∧∀a∈bs,P a
 | [],_=>⟨[],rfl,by simp⟩
 |x::l,h=>by
  obtain ⟨a,h1,h2⟩:=h x (by simp);obtain ⟨bs,h3,h4⟩:=EZ (l:=l) fun y hy=>h y (by simp[hy]);exact ⟨a::bs,by simp[h1,h3],by simpa using ⟨h2,h4⟩⟩
end Go.Vc
namespace Go.Vc
open Go
theorem aC:(type_of% @Yj)∧(type_of% @Yx)∧(type_of% @Xp)∧(type_of% @Yl)∧(type_of% @Yp)∧(type_of% @Xf)∧(type_of% @Xo)∧(type_of% @Zd)∧(type_of% @Zc)∧(type_of% @Xl)∧(type_of% @YE)∧(type_of% @YH)∧(type_of% @W9)∧(type_of% @Yr)∧(type_of% @YB)∧(type_of% @Yq)∧(type_of% @Yt)∧(type_of% @Yu)∧(type_of% @Yz)∧(type_of% @YA)∧(type_of% @Xe)∧(type_of% @Xb)∧(type_of% @YF)∧(type_of% @Yo)∧(type_of% @Yw)∧(type_of% @Xn)∧(type_of% @WZ)∧(type_of% @Yv)∧(type_of% @Xc)∧(type_of% @Yy)∧(type_of% @Xd)∧(type_of% @Yk)∧(type_of% @Xa)∧(type_of% @YG)∧(type_of% @Ym)∧(type_of% @Yn)∧(type_of% @Vb)∧(type_of% @VW)∧(type_of% @VX)∧(type_of% @YD)∧(type_of% @Xh)∧(type_of% @Xk)∧(type_of% @YC)∧(type_of% @Vd)∧(type_of% @Xj)∧(type_of% @Xi)∧(type_of% @Xg)∧(type_of% @VY)∧(type_of% @Xm)∧(type_of% @YK)∧(type_of% @Xr):=⟨@Yj, @Yx, @Xp, @Yl, @Yp, @Xf, @Xo, @Zd, @Zc, @Xl, @YE, @YH, @W9, @Yr, @YB, @Yq, @Yt, @Yu, @Yz, @YA, @Xe, @Xb, @YF, @Yo, @Yw, @Xn, @WZ, @Yv, @Xc, @Yy, @Xd, @Yk, @Xa, @YG, @Ym, @Yn, @Vb, @VW, @VX, @YD, @Xh, @Xk, @YC, @Vd, @Xj, @Xi, @Xg, @VY, @Xm, @YK, @Xr⟩
theorem aB:(type_of% @V3)∧(type_of% @V4)∧(type_of% @V5)∧(type_of% @Xq)∧(type_of% @List.map_cons.{0,0})∧(type_of% @List.map_nil.{0,0})∧(type_of% @List.zip_cons_cons.{0,0})∧(type_of% @List.zip_nil_right.{0,0})∧(type_of% @List.zip_nil_left.{0,0}):=⟨@V3, @V4, @V5, @Xq, @List.map_cons.{0,0}, @List.map_nil.{0,0}, @List.zip_cons_cons.{0,0}, @List.zip_nil_right.{0,0}, @List.zip_nil_left.{0,0}⟩
theorem au:(type_of% @bL)∧(type_of% @gH)∧(type_of% @YS)∧(type_of% @dY)∧(type_of% @eT)∧(type_of% @gQ)∧(type_of% @Tt)∧(type_of% @Uw)∧(type_of% @Tq)∧(type_of% @Uv)∧(type_of% @WT)∧(type_of% @JI)∧(type_of% @X9)∧(type_of% @Ww):=⟨@bL, @gH, @YS, @dY, @eT, @gQ, @Tt, @Uw, @Tq, @Uv, @WT, @JI, @X9, @Ww⟩
theorem aF:(type_of% @VC.YR)∧(type_of% @VC.YQ)∧(type_of% @VC.Zh)∧(type_of% @VC.Zg)∧(type_of% @VC.KQ)∧(type_of% @VC.XK)∧(type_of% @VC.XJ)∧(type_of% @VC.XI):=⟨@VC.YR, @VC.YQ, @VC.Zh, @VC.Zg, @VC.KQ, @VC.XK, @VC.XJ, @VC.XI⟩
theorem aD:(type_of% @VA)∧(type_of% @UN)∧(type_of% @Z0)∧(type_of% @Z4)∧(type_of% @LD)∧(type_of% @ZT)∧(type_of% @Zr)∧(type_of% @Zt)∧(type_of% @Z7)∧(type_of% @decide_eq_true_eq)∧(type_of% @decide_eq_false_iff_not)∧(type_of% @true_implies)∧(type_of% @and_true)∧(type_of% @true_and)∧(type_of% @X7)∧(type_of% @X8)∧(type_of% @gt_iff_lt.{0})∧(type_of% @ge_iff_le.{0})∧(type_of% @Int.not_lt)∧(type_of% @Int.not_le):=⟨@VA, @UN, @Z0, @Z4, @LD, @ZT, @Zr, @Zt, @Z7, @decide_eq_true_eq, @decide_eq_false_iff_not, @true_implies, @and_true, @true_and, @X7, @X8, @gt_iff_lt.{0}, @ge_iff_le.{0}, @Int.not_lt, @Int.not_le⟩
end Go.Vc
namespace Go.Plain
def be (l:List UInt8):Nat:=l.foldl (fun v x=>v*256+x.toNat) 0
def aJ:Nat→Nat→List UInt8
 |0,_=> []
 |n+1,v=>aJ n (v/256)++ [UInt8.ofNat v]
theorem aiJ {α:Type} {P:List α→Prop} (nil:P []) (snoc:∀l x,P l→P (l++ [x])) (l:List α):P l:=by
 have h:∀(n:Nat) (l:List α),l.length=n→P l:=by
  intro n;induction n with
  |zero=>intro l hl;rw[List.length_eq_zero_iff.1 hl];exact nil
  |succ n ih=>
   intro l hl;rcases List.eq_nil_or_concat l with rfl|⟨m,x,rfl⟩
   ·simp at hl
   ·rw[List.concat_eq_append] at hl ⊢;exact snoc m x (ih m (by simpa using hl))
 exact h _ l rfl
@[simp] theorem alR:be []=0:=rfl
@[simp] theorem Fv (l:List UInt8) (x:UInt8):be (l++ [x])=be l*256+x.toNat:=by simp[be]
theorem akA (l:List UInt8):be l<256^l.length:=by
 induction l using aiJ with
 |nil=>simp
 |snoc l x ih=>
  have:=x.toNat_lt;simp only[Fv,List.length_append,List.length_singleton,Nat.pow_succ];omega
@[simp] theorem iZ:∀(n v:Nat),(aJ n v).length=n
 |0,_=>rfl
 |n+1,v=>by simp[aJ,iZ n]
theorem zm:∀(n v:Nat),be (aJ n v)=v%256^n
 |0,v=>by simp[aJ,Nat.mod_one]
 |n+1,v=>by
  simp only[aJ,Fv,zm n,UInt8.toNat_ofNat'];have h:256^(n+1)=256*256^n:=by rw[Nat.pow_succ,Nat.mul_comm]
  rw[h,Nat.mod_mul];omega
theorem Wq:∀(n:Nat) (l:List UInt8),l.length=n→aJ n (be l)=l
 |0,l,h=>by rw[List.length_eq_zero_iff.1 h];rfl
 |n+1,l,h=>by
  rcases List.eq_nil_or_concat l with rfl|⟨m,x,rfl⟩
  ·simp at h
  ·simp only[List.concat_eq_append] at h ⊢;have hx:=x.toNat_lt;have h1:(be m*256+x.toNat)/256=be m:=by omega
   simp only[aJ,Fv,h1];rw[Wq n m (by simpa using h)];congr 2
   apply UInt8.toNat_inj.1;simp only[UInt8.toNat_ofNat'];omega
theorem I4:∀(n v:Nat),aJ (n+1) v=UInt8.ofNat (v/256^n)::aJ n v
 |0,v=>by simp[aJ]
 |n+1,v=>by
  rw[aJ,I4 n,aJ];simp only[List.cons_append,Nat.pow_succ,Nat.div_div_eq_div_mul];rw[Nat.mul_comm]
theorem zF (a k b:Nat) (h:b<2^k):a*2^k|||b=a*2^k+b:=by
 rw[←Nat.shiftLeft_eq,Nat.shiftLeft_add_eq_or_of_lt h]
theorem R3 (l:List UInt8) (i:Nat) (h:i<l.length):be (l.take (i+1))=be (l.take i)*256+(l.getD i 0).toNat:=by
 rw[List.take_succ_eq_append_getElem h,Fv];simp[List.getD,h]
theorem IW (l:List UInt8) (i:Nat):be (l.take i)<256^i:=by
 refine Nat.lt_of_lt_of_le (akA _) (Nat.pow_le_pow_right (by decide) ?_);simp;omega
theorem take_drop (l:List UInt8) (a n:Nat):(l.take (a+n)).drop a=(l.drop a).take n:=by
 rw[List.drop_take,Nat.add_sub_cancel_left]
end Go.Plain
namespace Go.Plain
structure Hd where
 pad:Bool
 ext:Bool
 mark:Bool
 typ:Int
 seq:Nat
 time:Nat
 aH:Nat
 aI:List Nat
 deriving DecidableEq
def Hd.zero:Hd:=⟨false,false,false,0,0,0,0,[]⟩
def Hd.ok (h:Hd):Prop:=h.seq<65536∧h.time<4294967296∧h.aH<4294967296∧∀c∈h.aI,c<4294967296
def Hd.right (h:Hd):Prop:=0≤h.typ∧h.typ<128∧h.aI.length<16
instance (h:Hd):Decidable h.right:=by unfold Hd.right;exact inferInstance
def Hd.first (h:Hd):Nat:=128+32*h.pad.toNat+16*h.ext.toNat+h.aI.length
def Hd.second (h:Hd):Nat:=128*h.mark.toNat+h.typ.toNat
def words (l:List Nat):List UInt8:=(l.map (aJ 4)).flatten
def Hd.bytes (h:Hd):List UInt8:=UInt8.ofNat h.first::UInt8.ofNat h.second::(aJ 2 h.seq++(aJ 4 h.time++(aJ 4 h.aH++words h.aI)))
def at_ (b:List UInt8) (i:Nat):Nat:=(b.getD i 0).toNat
def num (b:List UInt8) (i n:Nat):Nat:=be ((b.drop i).take n)
def Hd.of (b:List UInt8):Hd:=
 {pad:=decide (at_ b 0/32%2=1),ext:=decide (at_ b 0/16%2=1),mark:=decide (128≤at_ b 1),typ:=((at_ b 1%128:Nat):Int),seq:=num b 2 2,time:=num b 4 4,aH:=num b 8 4,
  aI:=(List.range (at_ b 0%16)).map fun i=>num b (12+4*i) 4}
def fu (b:List UInt8):Int:=if b.length<12 then 2 else if at_ b 0/64≠2 then 3 else if b.length<12+4*(at_ b 0%16) then 2 else 0
def hdN (b:List UInt8):Nat:=if fu b=0 then 12+4*(at_ b 0%16) else 0
def rG (b:List UInt8):Hd:=if fu b=0 then Hd.of b else Hd.zero
theorem uj {b:List UInt8}:fu b=0↔12≤b.length∧at_ b 0/64=2∧12+4*(at_ b 0%16)≤b.length:=by
 unfold fu;split
 ·simp;omega
 ·split
  ·simp;omega
  ·split<;>simp<;>omega
theorem Hz (l:List Nat):(words l).length=4*l.length:=by
 induction l with
 |nil=>rfl
 |cons x l ih=>simp only[words,List.map_cons,List.flatten_cons,List.length_append,iZ,List.length_cons] at ih ⊢;omega
theorem Hd.tJ (h:Hd):h.bytes.length=12+4*h.aI.length:=by
 simp[Hd.bytes,Hz];omega
theorem fF (b:List UInt8) (i:Nat):at_ b i<256:=UInt8.toNat_lt _
theorem oo (b:List UInt8) (i n:Nat):num b i n<256^n:=IW _ _
theorem BO {a b c:List UInt8} {n:Nat} (h:b.length=n):num (a++(b++c)) a.length n=be b:=by
 simp only[num];rw[List.drop_append,List.drop_of_length_le (Nat.le_refl _)];simp[←h]
theorem BI (a b:List UInt8) (i n:Nat):num (a++b) (a.length+i) n=num b i n:=by
 simp only[num];rw[←List.drop_drop,List.drop_left]
theorem Us:∀(l:List Nat) (r:List UInt8),(∀c∈l,c<4294967296)→((List.range l.length).map fun i=>num (words l++r) (4*i) 4)=l
 | [],_,_=>rfl
 |x::l,r,h=>by
  have h1:=h x (by simp);rw[List.length_cons,List.range_succ_eq_map,List.map_cons,List.map_map];have e1:num (words (x::l)++r) (4*0) 4=x:=by
   have:=BO (a:=[]) (b:=aJ 4 x) (c:=words l++r) (n:=4) (iZ _ _);simp only[words,List.map_cons,List.flatten_cons,List.append_assoc] at this ⊢;simp only[List.nil_append,List.length_nil] at this;rw[Nat.mul_zero,this,zm];omega
  have e2:((fun i=>num (words (x::l)++r) (4*i) 4)∘Nat.succ)=fun i=>num (words l++r) (4*i) 4:=by
   funext i
   have:=BI (aJ 4 x) (words l++r) (4*i) 4;rw[iZ] at this;simp only[Function.comp,words,List.map_cons,List.flatten_cons,List.append_assoc] at this ⊢;rw[←this];congr 1
   omega
  rw[e1,e2,Us l r (fun c hc=>h c (by simp[hc]))]
theorem zH {b:List UInt8} {i n:Nat} (h:i+n≤b.length):aJ n (num b i n)=(b.drop i).take n:=by
 apply Wq;simp;omega
theorem Hd.back (h:Hd) (hr:h.right) (ho:h.ok) (r:List UInt8):fu (h.bytes++r)=0∧Hd.of (h.bytes++r)=h∧at_ (h.bytes++r) 0%16=h.aI.length:=by
 obtain ⟨r1,r2,r3⟩:=hr;obtain ⟨o1,o2,o3,o4⟩:=ho;have a0:at_ (h.bytes++r) 0=h.first:=by
  simp only[at_,Hd.bytes,List.cons_append,List.getD_cons_zero,UInt8.toNat_ofNat'];apply Nat.mod_eq_of_lt;simp only[Hd.first];cases h.pad<;>cases h.ext<;>simp<;>omega
 have a1:at_ (h.bytes++r) 1=h.second:=by
  simp only[at_,Hd.bytes,List.cons_append,List.getD_cons_succ,List.getD_cons_zero,UInt8.toNat_ofNat'];apply Nat.mod_eq_of_lt;simp only[Hd.second];cases h.mark<;>simp<;>omega
 have hn:at_ (h.bytes++r) 0%16=h.aI.length:=by
  rw[a0];simp only[Hd.first];cases h.pad<;>cases h.ext<;>simp<;>omega
 refine ⟨?_,?_,hn⟩
 ·rw[uj,hn,List.length_append,Hd.tJ,a0];refine ⟨by omega,?_,by omega⟩;simp only[Hd.first];cases h.pad<;>cases h.ext<;>simp<;>omega
 ·have s1:num (h.bytes++r) 2 2=h.seq:=by
   have:=BO (a:=[UInt8.ofNat h.first,UInt8.ofNat h.second]) (b:=aJ 2 h.seq) (c:=aJ 4 h.time++(aJ 4 h.aH++(words h.aI++r))) (n:=2) (iZ _ _);rw[zm,Nat.mod_eq_of_lt (by omega)] at this;rw[←this];simp[Hd.bytes]
  have s2:num (h.bytes++r) 4 4=h.time:=by
   have:=BO (a:=[UInt8.ofNat h.first,UInt8.ofNat h.second]++aJ 2 h.seq) (b:=aJ 4 h.time) (c:=aJ 4 h.aH++(words h.aI++r)) (n:=4) (iZ _ _);rw[zm,Nat.mod_eq_of_lt (by omega)] at this;rw[←this];simp[Hd.bytes]
  have s3:num (h.bytes++r) 8 4=h.aH:=by
   have:=BO (a:=[UInt8.ofNat h.first,UInt8.ofNat h.second]++(aJ 2 h.seq++aJ 4 h.time)) (b:=aJ 4 h.aH) (c:=words h.aI++r) (n:=4) (iZ _ _);rw[zm,Nat.mod_eq_of_lt (by omega)] at this;rw[←this];simp[Hd.bytes]
  have s4:((List.range (at_ (h.bytes++r) 0%16)).map fun i=>num (h.bytes++r) (12+4*i) 4)=h.aI:=by
   rw[hn];have e:(fun i=>num (h.bytes++r) (12+4*i) 4)=fun i=>num (words h.aI++r) (4*i) 4:=by
    funext i
    have:=BI ([UInt8.ofNat h.first,UInt8.ofNat h.second]++(aJ 2 h.seq++(aJ 4 h.time++aJ 4 h.aH))) (words h.aI++r) (4*i) 4;rw[←this];simp[Hd.bytes]
   rw[e];exact Us _ _ o4
  have p1:(h.first/32%2=1)=(h.pad=true):=by
   simp only[Hd.first];cases h.pad<;>cases h.ext<;>simp<;>omega
  have p2:(h.first/16%2=1)=(h.ext=true):=by
   simp only[Hd.first];cases h.pad<;>cases h.ext<;>simp<;>omega
  have p3:(128≤h.second)=(h.mark=true):=by
   simp only[Hd.second];cases h.mark<;>simp<;>omega
  have p4:((h.second%128:Nat):Int)=h.typ:=by
   simp only[Hd.second];cases h.mark<;>simp<;>omega
  rw[hn] at s4;simp only[Hd.of,hn,s1,s2,s3,s4];rw[a0,a1];simp only[p1,p2,p3,p4,Bool.decide_eq_true]
theorem afK (b:List UInt8) (h:12≤b.length):b=UInt8.ofNat (at_ b 0)::UInt8.ofNat (at_ b 1)::b.drop 2:=by
 match b,h with
 |x::y::l,_=>
  simp[at_]
theorem Tk (b:List UInt8):∀n:Nat,4*n≤b.length→words ((List.range n).map fun i=>num b (4*i) 4)=b.take (4*n)
 |0,_=>by simp[words]
 |n+1,h=>by
  rw[List.range_succ,List.map_append];have e:words (((List.range n).map fun i=>num b (4*i) 4)++ [num b (4*n) 4])=words ((List.range n).map fun i=>num b (4*i) 4)++aJ 4 (num b (4*n) 4):=by
   simp[words]
  simp only[List.map_cons,List.map_nil];rw[e,Tk b n (by omega),zH (by omega),Nat.mul_succ,List.take_add]
theorem Hd.same (b:List UInt8) (h:fu b=0):(Hd.of b).right∧(Hd.of b).ok∧(Hd.of b).aI.length=at_ b 0%16∧(Hd.of b).bytes=b.take (12+4*(at_ b 0%16)):=by
 have hz:=uj.1 h;have h0:=fF b 0;have h1:=fF b 1;have hl:(Hd.of b).aI.length=at_ b 0%16:=by simp[Hd.of]
 refine ⟨?_,?_,hl,?_⟩
 ·have e:(Hd.of b).typ=((at_ b 1%128:Nat):Int):=rfl;refine ⟨by omega,by omega,by rw[hl];omega⟩
 ·refine ⟨oo _ _ 2,oo _ _ 4,oo _ _ 4,?_⟩;intro c hc;simp only[Hd.of,List.mem_map] at hc;obtain ⟨i,_,rfl⟩:=hc;exact oo _ _ 4
 ·have f1:(Hd.of b).first=at_ b 0:=by
   simp only[Hd.first,hl];have e1:(Hd.of b).pad=decide (at_ b 0/32%2=1):=rfl;have e2:(Hd.of b).ext=decide (at_ b 0/16%2=1):=rfl;rw[e1,e2];by_cases q1:at_ b 0/32%2=1<;>by_cases q2:at_ b 0/16%2=1<;>simp[q1,q2]<;>omega
  have f2:(Hd.of b).second=at_ b 1:=by
   simp only[Hd.second];have e1:(Hd.of b).mark=decide (128≤at_ b 1):=rfl;have e2:(Hd.of b).typ=((at_ b 1%128:Nat):Int):=rfl;rw[e1,e2];by_cases q1:128≤at_ b 1<;>simp[q1]<;>omega
  have g1:aJ 2 (Hd.of b).seq=(b.drop 2).take 2:=zH (by omega);have g2:aJ 4 (Hd.of b).time=(b.drop 4).take 4:=zH (by omega);have g3:aJ 4 (Hd.of b).aH=(b.drop 8).take 4:=zH (by omega);have g4:words (Hd.of b).aI=(b.drop 12).take (4*(at_ b 0%16)):=by
   rw[←Tk (b.drop 12) (at_ b 0%16) (by simp;omega)];congr 1
   simp only[Hd.of];apply List.map_congr_left;intro i _;simp[num,List.drop_drop]
  rw[Hd.bytes,f1,f2,g1,g2,g3,g4];have al4:∀(n m:Nat) (l:List UInt8),(l.drop n).take m++(l.drop (n+m))=l.drop n:=by
   intro n m l;rw[←List.drop_drop,List.take_append_drop]
  have e5:(12+4*(at_ b 0%16))=2+(2+(4+(4+4*(at_ b 0%16)))):=by omega
  generalize hm:4*(at_ b 0%16)=m at*;have hb:=afK b hz.1;have e6:b.take (2+(2+(4+(4+m))))=UInt8.ofNat (at_ b 0)::UInt8.ofNat (at_ b 1)::(b.drop 2).take (2+(4+(4+m))):=by
   conv=>lhs;rw[hb]
   rw[show 2+(2+(4+(4+m)))=(2+(4+(4+m)))+1+1 by omega,List.take_succ_cons,List.take_succ_cons]
  rw[e5,e6];have tk:∀(n m k:Nat),((b.drop k).take (n+m))=(b.drop k).take n++(b.drop (k+n)).take m:=by
   intro n m k;rw[List.take_add,List.drop_drop]
  rw[tk 2 _ 2,tk 4 _ 4,tk 4 _ 8]
theorem Hd.cut (h:Hd) (hr:h.right) (ho:h.ok) (k:Nat) (hk:k<h.bytes.length):fu (h.bytes.take k)=2:=by
 have hb:=Hd.back h hr ho [];rw[List.append_nil] at hb;have hz:=uj.1 hb.1;have hl:=h.tJ;unfold fu;rw[List.length_take,Nat.min_eq_left (Nat.le_of_lt hk)];split
 ·rfl
 ·rename_i h12;have a0:at_ (h.bytes.take k) 0=at_ h.bytes 0:=by
   simp only[at_,List.getD_eq_getElem?_getD];rw[List.getElem?_take,if_pos (by omega)]
  rw[a0,if_neg (by omega),if_pos (by omega)]
theorem Hd.inj {h k:Hd} (hr:h.right) (ho:h.ok) (kr:k.right) (ko:k.ok) (e:h.bytes=k.bytes):h=k:=by
 have h1:=(Hd.back h hr ho []).2.1;have h2:=(Hd.back k kr ko []).2.1;rw[←h1,←h2,e]
end Go.Plain
namespace Go.Plain
structure El where
 id:Int
 data:List UInt8
deriving DecidableEq
def El.zero:El:=⟨0,[]⟩
def aK (l:List El):List Int:=l.map (·.id)
def p8 (l:List El) (j:Nat):Prop:=1≤(l.getD j El.zero).id∧(l.getD j El.zero).id≤255∧(l.getD j El.zero).data.length≤255∧(l.getD j El.zero).id∉aK (l.take j)
instance (l:List El) (j:Nat):Decidable (p8 l j):=by unfold p8;exact inferInstance
def eF (l:List El):Prop:=∀j,j<l.length→p8 l j
instance (l:List El):Decidable (eF l):=by unfold eF;exact inferInstance
structure Sp where
 id:Nat
 pos:Nat
 size:Nat
deriving DecidableEq
def Sp.zero:Sp:=⟨0,0,0⟩
def bB (aj:Bool) (b:List UInt8) (p:Nat):Sp:=if aj then ⟨at_ b p/16,p+1,at_ b p%16+1⟩ else ⟨at_ b p,p+2,at_ b (p+1)⟩
def iE (l:List Sp):List Nat:=l.map (·.id)
theorem yY (aj:Bool) (b:List UInt8) (p:Nat):p<(bB aj b p).pos+(bB aj b p).size:=by
 unfold bB;split<;>simp only<;>omega
def wk (aj:Bool) (b:List UInt8) (p:Nat) (out:List Sp):List Sp×Int:=
 if h:p<b.length then
  if at_ b p=0 then wk aj b (p+1) out
  else if aj=true∧(at_ b p/16=15∨at_ b p/16=0) then (out,0)
  else if aj=false∧b.length≤p+1 then ([],4)
  else if b.length<(bB aj b p).pos+(bB aj b p).size then ([],4)
  else if (bB aj b p).id∈iE out then ([],6)
  else wk aj b ((bB aj b p).pos+(bB aj b p).size) (out++ [bB aj b p])
 else (out,0)
termination_by b.length-p
decreasing_by
 ·omega
 ·have:=yY aj b p;omega
theorem qH {aj:Bool} {b:List UInt8} {p:Nat} {out:List Sp} (h:¬p<b.length):wk aj b p out=(out,0):=by rw[wk,dif_neg h]
theorem wz {aj:Bool} {b:List UInt8} {p:Nat} {out:List Sp} (h:p<b.length) (h0:at_ b p=0):wk aj b p out=wk aj b (p+1) out:=by rw[wk,dif_pos h,if_pos h0]
theorem zf {aj:Bool} {b:List UInt8} {p:Nat} {out:List Sp} (h:p<b.length) (h0:¬at_ b p=0) (h1:aj=true∧(at_ b p/16=15∨at_ b p/16=0)):wk aj b p out=(out,0):=by rw[wk,dif_pos h,if_neg h0,if_pos h1]
theorem BF {aj:Bool} {b:List UInt8} {p:Nat} {out:List Sp} (h:p<b.length) (h0:¬at_ b p=0) (h1:¬(aj=true∧(at_ b p/16=15∨at_ b p/16=0))) (h2:aj=false∧b.length≤p+1):wk aj b p out=([],4):=by
 rw[wk,dif_pos h,if_neg h0,if_neg h1,if_pos h2]
theorem wB {aj:Bool} {b:List UInt8} {p:Nat} {out:List Sp} (h:p<b.length) (h0:¬at_ b p=0) (h1:¬(aj=true∧(at_ b p/16=15∨at_ b p/16=0))) (h2:¬(aj=false∧b.length≤p+1))
  (h3:b.length<(bB aj b p).pos+(bB aj b p).size):wk aj b p out=([],4):=by
 rw[wk,dif_pos h,if_neg h0,if_neg h1,if_neg h2,if_pos h3]
theorem yV {aj:Bool} {b:List UInt8} {p:Nat} {out:List Sp} (h:p<b.length) (h0:¬at_ b p=0) (h1:¬(aj=true∧(at_ b p/16=15∨at_ b p/16=0))) (h2:¬(aj=false∧b.length≤p+1))
  (h3:¬b.length<(bB aj b p).pos+(bB aj b p).size) (h4:(bB aj b p).id∈iE out):wk aj b p out=([],6):=by
 rw[wk,dif_pos h,if_neg h0,if_neg h1,if_neg h2,if_neg h3,if_pos h4]
theorem wk_step {aj:Bool} {b:List UInt8} {p:Nat} {out:List Sp} (h:p<b.length) (h0:¬at_ b p=0) (h1:¬(aj=true∧(at_ b p/16=15∨at_ b p/16=0))) (h2:¬(aj=false∧b.length≤p+1))
  (h3:¬b.length<(bB aj b p).pos+(bB aj b p).size) (h4:¬(bB aj b p).id∈iE out):wk aj b p out=wk aj b ((bB aj b p).pos+(bB aj b p).size) (out++ [bB aj b p]):=by
 rw[wk,dif_pos h,if_neg h0,if_neg h1,if_neg h2,if_neg h3,if_neg h4]
end Go.Plain
namespace Go.Plain
def spots (ak:Nat) (b:List UInt8):List Sp×Int:=
 if ak=48862 then wk true b 0 [] else if ak/16=256 then wk false b 0 [] else ([],6)
def dQ (b:List UInt8) (s:Sp):El:=⟨(s.id:Int),(b.drop s.pos).take s.size⟩
def iC (ak:Nat) (b:List UInt8):List El:=(spots ak b).1.map (dQ b)
def fM (aj:Bool) (e:El):Prop:=if aj then 1≤e.id∧e.id≤14∧1≤e.data.length∧e.data.length≤16 else 1≤e.id∧e.id≤255∧e.data.length≤255
instance (aj:Bool) (e:El):Decidable (fM aj e):=by unfold fM;exact inferInstance
def nH (l:List El):Bool:=decide (∀e∈l,fM true e)
def mI (l:List El):Nat:=if eF l then (if nH l then 48862 else 4096) else 0
def enc (aj:Bool) (e:El):List UInt8:=if aj then UInt8.ofNat (16*e.id.toNat+e.data.length-1)::e.data else UInt8.ofNat e.id.toNat::UInt8.ofNat e.data.length::e.data
def kY (aj:Bool) (l:List El):List UInt8:=l.flatMap (enc aj)
def CS (b:List UInt8):List UInt8:=b++List.replicate ((4-b.length%4)%4) 0
def nJ (l:List El):List UInt8:=CS (kY (nH l) l)
def ahead (aj:Bool):Nat:=if aj then 1 else 2
theorem tN (aj:Bool) (e:El):(enc aj e).length=ahead aj+e.data.length:=by
 unfold enc ahead;cases aj<;>simp<;>omega
theorem aeT {a b:List UInt8} (i:Nat):at_ (a++b) (a.length+i)=at_ b i:=by
 unfold at_;rw[List.getD_eq_getElem?_getD,List.getD_eq_getElem?_getD,List.getElem?_append_right (by omega)];congr 3;omega
theorem Ir {a b:List UInt8}:at_ (a++b) a.length=at_ b 0:=aeT 0
theorem tO {e:El} (h:fM true e):1≤e.id∧e.id≤14∧1≤e.data.length∧e.data.length≤16:=by simpa [fM] using h
theorem Iq {e:El} (h:fM false e):1≤e.id∧e.id≤255∧e.data.length≤255:=by simpa [fM] using h
theorem Vm (aj:Bool) (r:List UInt8) (out:List Sp):∀(n:Nat) (p:List UInt8),wk aj (p++(List.replicate n 0++r)) p.length out=wk aj (p++(List.replicate n 0++r)) (p.length+n) out
 |0,_=>rfl
 |n+1,p=>by
  have h0:at_ (p++(List.replicate (n+1) 0++r)) p.length=0:=by
   rw[Ir,List.replicate_succ];rfl
  rw[wz (by simp;omega) h0];have e:p++(List.replicate (n+1) 0++r)=(p++ [0])++(List.replicate n 0++r):=by simp[List.replicate_succ]
  have ih:=Vm aj r out n (p++ [0]);rw[e];rw[show p.length+1=(p++ [0]).length by simp];rw[ih];congr 1
  simp;omega
def lay (aj:Bool) (l:List (Nat×El)):List UInt8:=l.flatMap fun x=>List.replicate x.1 0++enc aj x.2
def gy (aj:Bool):Nat→List (Nat×El)→List Sp
 |_,[]=> []
 |p,(n,e)::l=>⟨e.id.toNat,p+n+ahead aj,e.data.length⟩::gy aj (p+n+(enc aj e).length) l
theorem A8 (aj:Bool):∀(l:List (Nat×El)) (p:Nat),(gy aj p l).length=l.length
 | [],_=>rfl
 |(_,_)::l,_=>by simp[gy,A8 aj l]
theorem WS (aj:Bool):∀(l:List (Nat×El)) (p r:List UInt8),(∀x∈l,fM aj x.2)→(gy aj p.length l).map (dQ (p++(lay aj l++r)))=l.map (·.2)
 | [],_,_,_=>rfl
 |(n,e)::l,p,r,hf=>by
  have e1:p++(lay aj ((n,e)::l)++r)=(p++List.replicate n 0++enc aj e)++(lay aj l++r):=by simp[lay]
  have ih:=WS aj l (p++List.replicate n 0++enc aj e) r (fun x hx=>hf x (by simp[hx]));have hid:1≤e.id:=by
   have:=hf (n,e) (by simp);revert this;cases aj<;>simp[fM]<;>omega
  rw[gy,List.map_cons,List.map_cons,e1];have hlen:p.length+n+(enc aj e).length=(p++List.replicate n (0:UInt8)++enc aj e).length:=by simp;omega
  rw[hlen,ih];congr 1
  unfold dQ;have e2:(p++List.replicate n 0++enc aj e)++(lay aj l++r)=(p++List.replicate n 0++(enc aj e).take (ahead aj))++(e.data++(lay aj l++r)):=by
   have:enc aj e=(enc aj e).take (ahead aj)++e.data:=by unfold enc ahead;cases aj<;>simp
   conv=>lhs;rw[this]
   simp
  have hl:(p++List.replicate n 0++(enc aj e).take (ahead aj)).length=p.length+n+ahead aj:=by
   simp[tN];omega
  rw[e2,←hl,List.drop_left,List.take_left];cases e;simp only[El.mk.injEq,and_true];simp only at hid;omega
theorem A9 {l:List El} (h:eF l):(∀e∈l,fM (nH l) e)∧(l.map fun e=>e.id.toNat).Nodup:=by
 have hin:∀e∈l,1≤e.id∧e.id≤255∧e.data.length≤255:=by
  intro e he;obtain ⟨j,hj,rfl⟩:=List.getElem_of_mem he;have:=h j hj;unfold p8 at this;rw[List.getD_eq_getElem?_getD,List.getElem?_eq_getElem hj] at this;exact ⟨this.1,this.2.1,this.2.2.1⟩
 refine ⟨fun e he=>?_,?_⟩
 ·by_cases hn:nH l=true
  ·rw[hn];exact (of_decide_eq_true hn) e he
  ·rw[Bool.not_eq_true] at hn;rw[hn];simpa [fM] using hin e he
 ·rw[List.nodup_iff_pairwise_ne,List.pairwise_iff_getElem];intro i j hi hj hij he;simp only[List.getElem_map,List.length_map] at he hi hj;have:=(h j hj).2.2.2;apply this;rw[List.getD_eq_getElem?_getD,List.getElem?_eq_getElem hj];simp only[Option.getD_some,aK,List.mem_map];refine ⟨l[i],?_,?_⟩
  ·rw[List.mem_take_iff_getElem];exact ⟨i,by omega,rfl⟩
  ·have h1:=hin l[i] (List.getElem_mem hi);have h2:=hin l[j] (List.getElem_mem hj);omega
theorem adE {l:List El} (aj:Bool) (h1:∀e∈l,fM aj e) (h2:(l.map fun e=>e.id.toNat).Nodup):eF l:=by
 intro j hj;have hin:∀e∈l,1≤e.id∧e.id≤255∧e.data.length≤255:=by
  intro e he;have:=h1 e he;revert this;cases aj<;>simp[fM]<;>omega
 have h3:=hin l[j] (List.getElem_mem hj);unfold p8;rw[List.getD_eq_getElem?_getD,List.getElem?_eq_getElem hj];refine ⟨h3.1,h3.2.1,h3.2.2,?_⟩;intro hm;simp only[Option.getD_some,aK,List.mem_map] at hm;obtain ⟨e,he,heq⟩:=hm;rw[List.mem_take_iff_getElem] at he;obtain ⟨i,hi,rfl⟩:=he;rw[List.nodup_iff_pairwise_ne,List.pairwise_iff_getElem] at h2;refine h2 i j (by simp;omega) (by simpa using hj) (by omega) ?_;simp[heq]
def wP (aj:Bool):Nat:=if aj then 48862 else 4096
theorem DN {l:List El} (h:eF l):mI l=wP (nH l):=by unfold mI wP;rw[if_pos h]
def kV (aj:Bool) (q:Nat):Prop:=if aj then q=48862 else q/16=256
theorem ahy {aj:Bool} {q:Nat} (h:kV aj q) (b:List UInt8):spots q b=wk aj b 0 []:=by
 unfold spots kV at*;cases aj
 ·simp only[Bool.false_eq_true,if_false] at h;rw[if_neg (by omega),if_pos h]
 ·simp only[if_true] at h;rw[if_pos h]
def Ky (aj:Bool) (b:List UInt8) (s:Sp):Prop:=fM aj (dQ b s)
theorem ait (aj:Bool) (b:List UInt8):∀(n p:Nat) (out:List Sp),b.length-p≤n→(∀s∈out,Ky aj b s∧s.pos+s.size≤b.length)→(iE out).Nodup→
  (∀s∈(wk aj b p out).1,Ky aj b s∧s.pos+s.size≤b.length)∧(iE (wk aj b p out).1).Nodup∧((wk aj b p out).2=0∨(wk aj b p out).1=[]∧((wk aj b p out).2=4∨(wk aj b p out).2=6)):=by
 intro n;induction n with
 |zero=>
  intro p out hn h1 h2;rw[qH (by omega)];exact ⟨h1,h2,.inl rfl⟩
 |succ n ih=>
  intro p out hn h1 h2;by_cases hp:p<b.length
  ·by_cases h0:at_ b p=0
   ·rw[wz hp h0];exact ih _ _ (by omega) h1 h2
   ·by_cases hs:aj=true∧(at_ b p/16=15∨at_ b p/16=0)
    ·rw[zf hp h0 hs];exact ⟨h1,h2,.inl rfl⟩
    ·by_cases hw:aj=false∧b.length≤p+1
     ·rw[BF hp h0 hs hw];exact ⟨by simp,by simp[iE],.inr ⟨rfl,.inl rfl⟩⟩
     ·by_cases hl:b.length<(bB aj b p).pos+(bB aj b p).size
      ·rw[wB hp h0 hs hw hl];exact ⟨by simp,by simp[iE],.inr ⟨rfl,.inl rfl⟩⟩
      ·by_cases ht:(bB aj b p).id∈iE out
       ·rw[yV hp h0 hs hw hl ht];exact ⟨by simp,by simp[iE],.inr ⟨rfl,.inr rfl⟩⟩
       ·rw[wk_step hp h0 hs hw hl ht];have Am:=yY aj b p;refine ih _ _ (by omega) ?_ ?_
        ·intro s hs2;rcases List.mem_append.1 hs2 with hs2|hs2
         ·exact h1 s hs2
         ·obtain rfl:s=bB aj b p:=by simpa using hs2
          refine ⟨?_,by omega⟩;have hx:=fF b p;have hy:=fF b (p+1);unfold Ky fM dQ;cases aj with
          |true=>
           simp only[bB,if_true,List.length_take,List.length_drop] at hl ⊢;simp only[true_and,not_or] at hs;omega
          |false=>
           simp only[bB,Bool.false_eq_true,if_false,List.length_take,List.length_drop] at hl ⊢;omega
        ·simp only[iE,List.map_append,List.map_cons,List.map_nil];rw[List.nodup_append];refine ⟨h2,by simp,?_⟩;intro a ha c hc;simp only[List.mem_singleton] at hc;subst hc;intro e;subst e;exact ht ha
  ·rw[qH hp];exact ⟨h1,h2,.inl rfl⟩
theorem R8 (q:Nat) (b:List UInt8):(∃aj,kV aj q∧spots q b=wk aj b 0 [])∨spots q b=([],6):=by
 unfold spots;split
 ·rename_i h;exact .inl ⟨true,by simp[kV,h],rfl⟩
 ·split
  ·rename_i h;exact .inl ⟨false,by simp[kV,h],rfl⟩
  ·exact .inr rfl
theorem jS (q:Nat) (b:List UInt8):(∀s∈(spots q b).1,s.pos+s.size≤b.length)∧((spots q b).2=0∨(spots q b).1=[]∧((spots q b).2=4∨(spots q b).2=6))∧eF (iC q b):=by
 rcases R8 q b with ⟨aj,_,h⟩|h
 ·have:=ait aj b b.length 0 [] (by omega) (by simp) (by simp[iE]);unfold iC;rw[h];refine ⟨fun s hs=>(this.1 s hs).2,this.2.2,?_⟩;refine adE aj ?_ ?_
  ·intro e he;obtain ⟨s,hs,rfl⟩:=List.mem_map.1 he;exact (this.1 s hs).1
  ·have h2:=this.2.1;have e:(List.map (fun e=>e.id.toNat) (List.map (dQ b) (wk aj b 0 []).1))=iE (wk aj b 0 []).1:=by
    simp only[List.map_map,iE];apply List.map_congr_left;intro s _;simp[dQ]
   rw[e];exact h2
 ·unfold iC;rw[h];exact ⟨by simp,.inr ⟨rfl,.inr rfl⟩,by intro j hj;simp at hj⟩
end Go.Plain
namespace Go.Plain
def zy (aj:Bool) (r:List UInt8):Prop:=∀(q:List UInt8) (out:List Sp),wk aj (q++r) q.length out=(out,0)
theorem Vr (aj:Bool):zy aj []:=fun q out=>qH (by simp)
theorem agC {aj:Bool} {r:List UInt8} (h:zy aj r):zy aj (0::r):=fun q out=>by
 have:=Vm aj r out 1 q;simp only[List.replicate_one,List.singleton_append] at this;rw[this];have h2:=h (q++ [0]) out;simpa using h2
theorem ahu {x:UInt8} (r:List UInt8) (h0:x.toNat≠0) (h:x.toNat/16=15∨x.toNat/16=0):zy true (x::r):=fun q out=>by
 have a0:at_ (q++x::r) q.length=x.toNat:=by rw[Ir];rfl
 exact zf (by simp) (by rw[a0];exact h0) ⟨rfl,by rw[a0];exact h⟩
theorem Kq (b:List UInt8) (p i:Nat):at_ (b.drop p) i=at_ b (p+i):=by
 simp only[at_,List.getD_eq_getElem?_getD,List.getElem?_drop]
theorem vM {b:List UInt8} {p:Nat} (h:p<b.length):b.drop p=UInt8.ofNat (at_ b p)::b.drop (p+1):=by
 rw[List.drop_eq_getElem_cons h];simp[at_,List.getD,h]
theorem aie {aj:Bool} {b:List UInt8} {p:Nat} (h:p<b.length) (h0:¬at_ b p=0) (h1:¬(aj=true∧(at_ b p/16=15∨at_ b p/16=0))) (h2:¬(aj=false∧b.length≤p+1))
  (h3:¬b.length<(bB aj b p).pos+(bB aj b p).size):
  fM aj (dQ b (bB aj b p))∧b.drop p=enc aj (dQ b (bB aj b p))++b.drop ((bB aj b p).pos+(bB aj b p).size)∧bB aj b p=⟨(dQ b (bB aj b p)).id.toNat,p+ahead aj,(dQ b (bB aj b p)).data.length⟩:=by
 have hx:=fF b p;have hy:=fF b (p+1);have hd:(b.drop (bB aj b p).pos).take (bB aj b p).size++b.drop ((bB aj b p).pos+(bB aj b p).size)=b.drop (bB aj b p).pos:=by rw[←List.drop_drop,List.take_append_drop]
 have hl:((b.drop (bB aj b p).pos).take (bB aj b p).size).length=(bB aj b p).size:=by simp;omega
 cases aj with
 |true=>
  simp only[true_and,not_or] at h1;have e1:(bB true b p).id=at_ b p/16:=rfl;have e2:(bB true b p).pos=p+1:=rfl;have e3:(bB true b p).size=at_ b p%16+1:=rfl;refine ⟨?_,?_,?_⟩
  ·unfold fM dQ;simp only[if_true,hl];omega
  ·unfold enc dQ;simp only[if_true,hl];rw[List.cons_append,hd,e2,vM h];congr 2
   rw[e1,e3];omega
  ·unfold dQ;simp only[hl,Int.toNat_natCast];rfl
 |false=>
  have h2:p+1<b.length:=by simpa using h2
  have e1:(bB false b p).id=at_ b p:=rfl;have e2:(bB false b p).pos=p+2:=rfl;have e3:(bB false b p).size=at_ b (p+1):=rfl;refine ⟨?_,?_,?_⟩
  ·unfold fM dQ;simp only[Bool.false_eq_true,if_false,hl];omega
  ·unfold enc dQ;simp only[Bool.false_eq_true,if_false,hl];rw[List.cons_append,List.cons_append,hd,e2,vM h,vM h2];congr 2
  ·unfold dQ;simp only[hl,Int.toNat_natCast];rfl
theorem agx (aj:Bool) (b:List UInt8):∀(n p:Nat) (out S:List Sp),b.length-p≤n→p≤b.length→wk aj b p out=(S,0)→
  ∃l r,b.drop p=lay aj l++r∧S=out++gy aj p l∧(∀x∈l,fM aj x.2)∧zy aj r:=by
 intro n;induction n with
 |zero=>
  intro p out S hn hp h;rw[qH (by omega)] at h;cases h;refine ⟨[],[],?_,by simp[gy],by simp,Vr aj⟩;rw[List.drop_of_length_le (by omega)];rfl
 |succ n ih=>
  intro p out S hn hp h;by_cases hlt:p<b.length
  ·by_cases h0:at_ b p=0
   ·rw[wz hlt h0] at h;obtain ⟨l,r,e1,e2,e3,e4⟩:=ih (p+1) out S (by omega) (by omega) h;have hd:=vM hlt;rw[h0,e1] at hd;cases l with
    |nil=>exact ⟨[],0::r,by simpa [lay] using hd,by simpa [gy] using e2,by simp,agC e4⟩
    |cons x l=>
     obtain ⟨m,e⟩:=x;refine ⟨(m+1,e)::l,r,?_,?_,?_,e4⟩
     ·rw[hd];simp[lay,List.replicate_succ]
     ·rw[e2];simp only[gy];rw[show p+1+m=p+(m+1) by omega]
     ·intro x hx;rcases List.mem_cons.1 hx with rfl|hx
      ·exact e3 (m,e) (by simp)
      ·exact e3 x (by simp[hx])
   ·by_cases hs:aj=true∧(at_ b p/16=15∨at_ b p/16=0)
    ·rw[zf hlt h0 hs] at h;cases h;obtain ⟨rfl,hs⟩:=hs;refine ⟨[],b.drop p,by simp[lay],by simp[gy],by simp,?_⟩;rw[vM hlt];have hx:=fF b p;have e:(UInt8.ofNat (at_ b p)).toNat=at_ b p:=by simp;omega
     exact ahu _ (by rw[e];exact h0) (by rw[e];exact hs)
    ·by_cases hw:aj=false∧b.length≤p+1
     ·rw[BF hlt h0 hs hw] at h;cases h
     ·by_cases hl:b.length<(bB aj b p).pos+(bB aj b p).size
      ·rw[wB hlt h0 hs hw hl] at h;cases h
      ·by_cases ht:(bB aj b p).id∈iE out
       ·rw[yV hlt h0 hs hw hl ht] at h;cases h
       ·rw[wk_step hlt h0 hs hw hl ht] at h;have Am:=yY aj b p;obtain ⟨l,r,e1,e2,e3,e4⟩:=ih _ _ S (by omega) (by omega) h;obtain ⟨g1,g2,g3⟩:=aie hlt h0 hs hw hl;rw[e1] at g2;generalize hsp:bB aj b p=sp at*;have hpos:sp.pos+sp.size=p+0+(enc aj (dQ b sp)).length:=by
         rw[tN];have:=congrArg Sp.pos g3;have:=congrArg Sp.size g3;simp only at*;omega
        refine ⟨(0,dQ b sp)::l,r,?_,?_,?_,e4⟩
        ·rw[g2];simp[lay]
        ·rw[e2,hpos];simp only[gy,Nat.add_zero,List.append_assoc,List.singleton_append];congr 2
        ·intro x hx;rcases List.mem_cons.1 hx with rfl|hx
         ·exact g1
         ·exact e3 x hx
  ·have:p=b.length:=by omega
   rw[qH hlt] at h;cases h;refine ⟨[],[],?_,by simp[gy],by simp,Vr aj⟩;rw[List.drop_of_length_le (by omega)];rfl
theorem AV {q:Nat} {b:List UInt8} (h:(spots q b).2=0):∃aj l r,kV aj q∧b=lay aj l++r∧(spots q b).1=gy aj 0 l∧(∀x∈l,fM aj x.2)∧zy aj r:=by
 rcases R8 q b with ⟨aj,hq,hs⟩|hs
 ·have hw:wk aj b 0 []=((wk aj b 0 []).1,0):=by rw[←hs];rw[←h]
  obtain ⟨l,r,e1,e2,e3,e4⟩:=agx aj b b.length 0 [] _ (by omega) (by omega) hw;exact ⟨aj,l,r,hq,by simpa using e1,by rw[hs];simpa using e2,e3,e4⟩
 ·rw[hs] at h;cases h
theorem Em {q:Nat} {b:List UInt8} {aj:Bool} {l:List (Nat×El)} {r:List UInt8} (hb:b=lay aj l++r) (hs:(spots q b).1=gy aj 0 l) (hf:∀x∈l,fM aj x.2):
  iC q b=l.map (·.2)∧(l.map (fun x=>x.2.id.toNat)).Nodup:=by
 have h1:iC q b=l.map (·.2):=by
  unfold iC;rw[hs,hb];simpa using WS aj l [] r hf
 refine ⟨h1,?_⟩;have h2:=(jS q b).2.2;rw[h1] at h2;have h3:=(A9 h2).2;rw[List.map_map] at h3;exact h3
end Go.Plain
namespace Go.Plain
def ku (l:List Int) (j:Nat):Prop:=1≤l.getD j 0∧l.getD j 0≤255∧l.getD j 0∉l.take j
instance (l:List Int) (j:Nat):Decidable (ku l j):=by unfold ku;infer_instance
def fQ (l:List Int):Prop:=∀j,j<l.length→ku l j
instance (l:List Int):Decidable (fQ l):=by unfold fQ;infer_instance
structure Mp where
 fr:Int
 to:Int
 deriving DecidableEq
def Mp.zero:Mp:=⟨0,0⟩
structure Pl where
 sm:Bool
 m:Bool
 st:Bool
 ty:Int
 sq:Bool
 seq:Int
 aY:Bool
 time:Int
 ss:Bool
 aH:Int
 maps:List Mp
 over:List El
 drops:List Int
 adds:List El
 np:Bool
 deriving DecidableEq
def Pl.zero:Pl:=⟨false,false,false,0,false,0,false,0,false,0,[],[],[],[],false⟩
def wH (p:Pl):Prop:=(p.sm=true∨p.m=false)∧(p.st=true∨p.ty=0)∧(p.sq=true∨p.seq=0)∧(p.aY=true∨p.time=0)∧(p.ss=true∨p.aH=0)∧0≤p.ty∧p.ty≤127
instance (p:Pl):Decidable (wH p):=by unfold wH;infer_instance
def bR (p:Pl):Prop:=wH p∧fQ (p.maps.map (·.fr))∧fQ (p.maps.map (·.to))∧fQ p.drops∧eF p.over∧eF p.adds∧(∀d∈p.drops,d∉p.maps.map (·.fr))∧∀d∈p.drops,d∉aK p.over
instance (p:Pl):Decidable (bR p):=by unfold bR;infer_instance
def fq (p:Pl):Prop:=p.maps.length≤1000000∧p.over.length≤1000000∧p.drops.length≤1000000∧p.adds.length≤1000000
def dO (p:Pl):Prop:=0≤p.seq∧p.seq<65536∧0≤p.time∧p.time<4294967296∧0≤p.aH∧p.aH<4294967296
instance (p:Pl):Decidable (dO p):=by unfold dO;infer_instance
theorem oq {l:List Int} (h:fQ l):∀x∈l,1≤x∧x≤255:=by
 intro x hx;obtain ⟨j,hj,rfl⟩:=List.getElem_of_mem hx;have:=h j hj;unfold ku at this;simp[List.getD,hj] at this;omega
theorem mH (l:List Int):fQ l↔(∀x∈l,1≤x∧x≤255)∧l.Nodup:=by
 constructor
 ·intro h;refine ⟨oq h,?_⟩;rw[List.Nodup,List.pairwise_iff_getElem];intro i j hi hj hij he;have:=(h j hj).2.2;apply this;rw[List.mem_take_iff_getElem];refine ⟨i,by omega,?_⟩;simp[List.getD,hj,he]
 ·rintro ⟨h1,h2⟩ j hj;have hm:l.getD j 0∈l:=by simp[List.getD,hj]
  refine ⟨(h1 _ hm).1,(h1 _ hm).2,fun h3=>?_⟩;rw[List.mem_take_iff_getElem] at h3;obtain ⟨i,hi,he⟩:=h3;rw[List.Nodup,List.pairwise_iff_getElem] at h2;have hi2:i<l.length:=by omega
  apply h2 i j hi2 hj (by omega);rw[he];simp[List.getD,hj]
theorem rP {l:List El} (h:eF l):fQ (aK l):=by
 intro j hj;have hj2:j<l.length:=by simpa [aK] using hj
 obtain ⟨h1,h2,h3,h4⟩:=h j hj2;have e:(aK l).getD j 0=(l.getD j El.zero).id:=by simp[aK,List.getD,hj2]
 have t:(aK l).take j=aK (l.take j):=by simp[aK]
 unfold ku;rw[e,t];exact ⟨h1,h2,h4⟩
def newId (p:Pl) (x:Int):Int:=match p.maps.find? (·.fr==x) with|some m=>m.to|none=>x
def fK (p:Pl) (x:Int) (d:List UInt8):List UInt8:=match p.over.find? (·.id==x) with|some e=>e.data|none=>d
def iq (p:Pl) (e:El):El:=⟨newId p e.id,fK p e.id e.data⟩
def gY (p:Pl) (l:List El):List El:=(l.filter fun e=>decide (e.id∉p.drops)).map (iq p)++p.adds
def qK (p:Pl) (l:List El):Prop:=(∀x∈p.maps.map (·.fr),x∈aK l)∧(∀x∈aK p.over,x∈aK l)∧∀x∈p.drops,x∈aK l
instance (p:Pl) (l:List El):Decidable (qK p l):=by unfold qK;infer_instance
def nL (p:Pl) (l:List El):Prop:=∀e∈l,e.id∉p.drops→(fK p e.id e.data).length=e.data.length
instance (p:Pl) (l:List El):Decidable (nL p l):=by unfold nL;infer_instance
def iB (p:Pl) (l:List El):Prop:=qK p l∧nL p l∧fQ (aK (gY p l))
instance (p:Pl) (l:List El):Decidable (iB p l):=by unfold iB;infer_instance
def vw (p:Pl) (e:El):Nat:=if e.id∈p.drops then 1 else (if e.id∈aK p.over then 1 else 0)+(if e.id∈p.maps.map (·.fr) then 1 else 0)
def cnt (p:Pl) (l:List El):Nat:=(l.map (vw p)).sum
theorem EH {A D:List Int} (hA:A.Nodup) (hD:D.Nodup):A.countP (fun x=>decide (x∈D))=(D.filter fun x=>decide (x∈A)).length:=by
 rw[List.countP_eq_length_filter];apply List.Perm.length_eq;rw[List.perm_ext_iff_of_nodup (hA.sublist List.filter_sublist) (hD.sublist List.filter_sublist)];intro a;simp only[List.mem_filter,decide_eq_true_eq];exact And.comm
theorem filter_all {D:List Int} (q:Int→Bool):(D.filter q).length=D.length↔∀x∈D,q x=true:=by
 rw[List.length_filter_eq_length_iff]
theorem YM (p:Pl) (h1:∀d∈p.drops,d∉p.maps.map (·.fr)) (h2:∀d∈p.drops,d∉aK p.over):∀l:List El,
  cnt p l=(aK l).countP (fun x=>decide (x∈p.drops))+((aK l).countP (fun x=>decide (x∈aK p.over))+(aK l).countP (fun x=>decide (x∈p.maps.map (·.fr))))
 | []=>rfl
 |e::l=>by
  have ih:=YM p h1 h2 l;have e1:cnt p (e::l)=vw p e+cnt p l:=by simp[cnt]
  have e2:aK (e::l)=e.id::aK l:=rfl;rw[e1,e2,List.countP_cons,List.countP_cons,List.countP_cons,ih];unfold vw;by_cases hd:e.id∈p.drops
  ·have a:=h1 _ hd;have b:=h2 _ hd;simp only[hd,a,b,if_true,decide_true,decide_false];simp;omega
  ·simp only[hd,if_false,decide_false,decide_eq_true_eq];simp;omega
theorem Vh {p:Pl} (hp:bR p) {l:List El} (hl:eF l):cnt p l=p.drops.length+p.maps.length+p.over.length↔qK p l:=by
 obtain ⟨_,r1,_,r2,r3,_,r4,r5⟩:=hp;have n0:=((mH _).1 (rP hl)).2;have n1:=((mH _).1 r1).2;have n2:=((mH _).1 r2).2;have n3:=((mH _).1 (rP r3)).2;rw[YM p r4 r5,EH n0 n2,EH n0 n3,EH n0 n1];have l1:=List.length_filter_le (fun x=>decide (x∈aK l)) p.drops;have l2:=List.length_filter_le (fun x=>decide (x∈aK l)) (aK p.over);have l3:=List.length_filter_le (fun x=>decide (x∈aK l)) (p.maps.map (·.fr));have m1:(p.maps.map (·.fr)).length=p.maps.length:=by simp
 have m2:(aK p.over).length=p.over.length:=by simp[aK]
 have a1:=filter_all (D:=p.drops) (fun x=>decide (x∈aK l));have a2:=filter_all (D:=aK p.over) (fun x=>decide (x∈aK l));have a3:=filter_all (D:=p.maps.map (·.fr)) (fun x=>decide (x∈aK l));unfold qK;simp only[decide_eq_true_eq] at a1 a2 a3;rw[←a1,←a2,←a3];omega
def rY (g:El→El) (l:List (Nat×El)):List (Nat×El):=l.map fun x=>(x.1,g x.2)
theorem ET {aj:Bool} {g:El→El} {f:List UInt8→Sp→El→List UInt8} (r:List UInt8):∀(l:List (Nat×El)) (A:List UInt8),(∀x∈l,(g x.2).data.length=x.2.data.length)→
  (∀(A R:List UInt8),∀x∈l,f (A++(enc aj x.2++R)) ⟨x.2.id.toNat,A.length+ahead aj,x.2.data.length⟩ (g x.2)=A++(enc aj (g x.2)++R))→
  ((gy aj A.length l).zip (l.map fun x=>g x.2)).foldl (fun x z=>f x z.1 z.2) (A++(lay aj l++r))=A++(lay aj (rY g l)++r)
 | [],A,_,_=>rfl
 |(n,e)::l,A,hl,hf=>by
  have e1:A++(lay aj ((n,e)::l)++r)=(A++List.replicate n 0)++(enc aj e++(lay aj l++r)):=by simp[lay]
  have hstep:=hf (A++List.replicate n 0) (lay aj l++r) (n,e) (by simp);have hlen:(A++List.replicate n (0:UInt8)).length=A.length+n:=by simp
  rw[hlen] at hstep;have hge:(enc aj (g e)).length=(enc aj e).length:=by rw[tN,tN,hl (n,e) (by simp)]
  have ih:=ET (f:=f) r l (A++List.replicate n 0++enc aj (g e)) (fun x hx=>hl x (by simp[hx])) (fun A R x hx=>hf A R x (by simp[hx]));have CP:(A++List.replicate n (0:UInt8)++enc aj (g e)).length=A.length+n+(enc aj e).length:=by rw[List.length_append,hlen,hge]
  rw[CP] at ih;rw[gy,List.map_cons,List.zip_cons_cons,List.foldl_cons,e1,hstep];have e2:(A++List.replicate n 0)++(enc aj (g e)++(lay aj l++r))=(A++List.replicate n 0++enc aj (g e))++(lay aj l++r):=by simp
  rw[e2,ih];simp[rY,lay]
theorem Ka {aj:Bool} {g:El→El}:∀(l:List (Nat×El)),(∀x∈l,(g x.2).data.length=x.2.data.length)→(lay aj (rY g l)).length=(lay aj l).length
 | [],_=>rfl
 |(n,e)::l,h=>by
  have:=Ka (aj:=aj) (g:=g) l (fun x hx=>h x (by simp[hx]));simp only[lay,rY,List.map_cons,List.flatMap_cons,List.length_append,List.length_replicate,tN] at this ⊢;have:=h (n,e) (by simp);simp only at this;omega
end Go.Plain
namespace Go.Vc
open Go.ChangeShapes Go.WideShapes Go.ChangeAt Go.RowKit
def Ty:Sh→C→Prop
 | .int k,c=>∃n,c= .int n∧(Lit.int k n).wf=true
 | .bool,c=>∃b,c= .bool b
 | .str,c=>∃s,c= .str s∧s.length≤maxLen
 | .sl e,c=>∃l,c= .ls l∧l.length≤maxLen∧∀x∈l,Ty e x
 | .unit,c=>c= .ls []
 | .pair a b,c=>∃x l,c= .ls (x::l)∧Ty a x∧Ty b (.ls l)
 |_,_=>False
theorem aj3 {k:IntKind} {n:Int}:(Lit.int k n).wf=true↔k.min≤n∧n≤k.max:=by
 simp[Lit.wf]
def CW:List Sh→List C→Prop
 | [],cs=>cs=[]
 |s::l,cs=>∃c r,cs=c::r∧Ty s c∧CW l r
theorem zx {k:IntKind} {c:C} (h:Ty (.int k) c):∃n:Int,c= .int n∧k.min≤n∧n≤k.max:=by
 obtain ⟨n,h1,h2⟩:=h;exact ⟨n,h1,aj3.1 h2⟩
theorem Fz {k:IntKind} (hs:k.signed=false) {c:C} (h:Ty (.int k) c):∃n:Nat,c= .int n∧n<2^k.bits:=by
 obtain ⟨n,rfl,h1,h2⟩:=zx h;refine ⟨n.toNat,?_,?_⟩
 ·cases k<;>simp[IntKind.signed] at hs<;>simp[IntKind.min,IntKind.signed] at h1<;>congr 1<;>omega
 ·cases k<;>simp[IntKind.signed] at hs<;>simp[IntKind.min,IntKind.max,IntKind.signed,IntKind.bits] at h1 h2 ⊢ <;>omega
theorem Vn {c:C} (h:Ty (.sl (.int .u8)) c):∃b:List UInt8,c= .ls (ofBytes b):=by
 obtain ⟨l,rfl,_,hl⟩:=h;refine ⟨l.map fun c=>UInt8.ofNat c.toInt.toNat,?_⟩;congr 1
 simp only[ofBytes,List.map_map];conv=>lhs;rw[←List.map_id l]
 apply List.map_congr_left;intro c hc;obtain ⟨n,rfl,hn⟩:=Fz rfl (hl c hc);simp only[Function.comp,id,C.toInt_int,Int.toNat_natCast,UInt8.toNat_ofNat'];simp[IntKind.bits] at hn;congr 1
 omega
def Cr (P:Program) (R:TypeId→Sh→Bool):List Field→Sh→Nat→Bool
 | [],.unit,_=>true
 |f::fs,.pair a b,off=>f.offset==off&&(P.cellsOf f.type==a.size&&(R f.type a&&(b.isAgg&&Cr P R fs b (off+a.size))))
 |_,_,_=>false
def pQ (P:Program):Nat→TypeId→Sh→Bool
 |0,_,_=>false
 |n+1,t,s=>match P.underlying t,s with
  |some .bool,.bool=>true
  |some (.int k),.int k'=>decide (k=k')
  |some .string,.str=>true
  |some (.slice e),.sl s=>P.cellsOf e==s.size&&(s.size !=0&&pQ P n e s)
  |some (.struct fs),s=>s.isAgg&&(P.cellsOf t==s.size&&Cr P (pQ P n) fs.toList s 0)
  |_,_=>false
theorem Ty.agg {s:Sh} {c:C} (hs:s.isAgg=true) (h:Ty s c):∃l,c= .ls l:=by
 cases s with
 |unit=>exact ⟨[],h⟩
 |pair a b=>obtain ⟨x,l,h,_⟩:=h;exact ⟨_,h⟩
 |_=>cases hs
theorem pick {Q:Nat→C→Prop}:∀n:Nat,(∀i,i<n→∃c,Q i c)→∃l:List C,l.length=n∧∀i c,l[i]?=some c→Q i c
 |0,_=>⟨[],rfl,fun i c h=>by simp at h⟩
 |n+1,h=>by
  obtain ⟨l,h1,h2⟩:=pick n fun i hi=>h i (by omega);obtain ⟨c,hc⟩:=h n (by omega);refine ⟨l++ [c],by simp[h1],fun i c' hi=>?_⟩;by_cases hl:i<n
  ·rw[List.getElem?_append_left (by omega)] at hi;exact h2 i c' hi
  ·have:i=n:=by
    have:=(List.getElem?_eq_some_iff.1 hi).1;simp at this;omega
   subst this;rw[List.getElem?_append_right (by omega),h1] at hi;simp at hi;exact hi▸hc
section
variable {H:Type} {enc:TypeId×Value→H} {P:Program} {w:World} {base:Nat} {sp:Nat→Bool} {held:Bool}
theorem ag7 {n m:Nat} (ih:∀t s cs fuel x,pQ P n t s=true→DataW.trod enc P w base sp held fuel t cs=some x→∃c,Rd w (fun _=>True) s cs c∧Ty s c)
  {cs:List Value}:∀(fs:List Field) (s:Sh) (off:Nat) (xs:List (DataW H×List MemPlace)),xs.length=fs.length→
   (∀(i:Nat) (f:Field),fs[i]?=some f→DataW.trod enc P w base sp held m f.type ((cs.drop f.offset).take (P.cellsOf f.type))=xs[i]?)→
   Cr P (pQ P n) fs s off=true→cs.length=off+s.size→∃c,Rd w (fun _=>True) s (cs.drop off) c∧Ty s c:=by
 intro fs;induction fs with
 |nil=>
  intro s off xs _ _ hg hl;cases s<;>simp[Cr] at hg;exact ⟨.ls [],by simp only[Rd];apply List.drop_eq_nil_of_le;simp[Sh.size] at hl;omega,rfl⟩
 |cons f fs ihf=>
  intro s off xs hxl hx hg hl;cases s<;>simp[Cr] at hg;rename_i a b;obtain ⟨h1,h2,h3,h4,h5⟩:=hg;cases xs with
  |nil=>simp at hxl
  |cons x xs=>
   have h0:=hx 0 f rfl;simp only[List.getElem?_cons_zero] at h0;rw[h1,h2] at h0;obtain ⟨ca,r1,r2⟩:=ih _ _ _ _ _ h3 h0;obtain ⟨cb,r3,r4⟩:=ihf b (off+a.size) xs (by simpa using hxl) (fun i g hg=>by simpa using hx (i+1) g (by simpa using hg)) h5 (by simp[Sh.size] at hl;omega);obtain ⟨l,rfl⟩:=r4.agg h4;refine ⟨.ls (ca::l),⟨h4,(cs.drop off).take a.size,cs.drop (off+a.size),?_,r1,r3⟩,ca,l,rfl,r2,r4⟩;rw[←List.drop_drop,List.take_append_drop]
theorem aiz:∀(n:Nat) (t:TypeId) (s:Sh) (cs:List Value) (fuel:Nat) (x:DataW H×List MemPlace),
  pQ P n t s=true→DataW.trod enc P w base sp held fuel t cs=some x→∃c,Rd w (fun _=>True) s cs c∧Ty s c:=by
 intro n;induction n with
 |zero=>intro t s cs fuel x h;simp[pQ] at h
 |succ n ih=>
  intro t s cs fuel x hg ht;unfold pQ at hg;split at hg
  ·rename_i hu;obtain ⟨b,rfl,_⟩:=DataW.trod_bool hu ht;exact ⟨.bool b,rfl,b,rfl⟩
  ·rename_i k k' hu;obtain ⟨m,rfl,_,hw⟩:=DataW.trod_int hu ht;have:=of_decide_eq_true hg;subst this;exact ⟨.int m,rfl,m,rfl,hw⟩
  ·rename_i hu;obtain ⟨str,rfl,_,hl⟩:=DataW.trod_string hu ht;exact ⟨.str str.data.toList,by simp[Rd],_,rfl,by simpa using hl⟩
  ·rename_i e s hu;simp at hg;obtain ⟨h1,h2,h3⟩:=hg;rcases DataW.trod_slice hu ht with ⟨rfl,_⟩|⟨a,len,cap,elems,rest,m,_,rfl,_,_,hl,hm,hlen,hel,_,_⟩
   ·exact ⟨.ls [],⟨none,0,rfl,by simp,by simp[maxLen],by simp⟩,[],rfl,by simp,by simp⟩
   ·by_cases hz:len=0
    ·subst hz;exact ⟨.ls [],⟨some a,cap,rfl,by simp,hm,by simp⟩,[],rfl,by simp,by simp⟩
    obtain ⟨b,off,spot⟩:=a;have XA:∀i,i<len→∃us c,w.cells? base (Addr.add ⟨b,off,spot⟩ (i*s.size)) s.size=some us∧Rd w (fun _=>True) s us c∧Ty s c:=by
     intro i hi;have h4:=hel i hi;rw[List.getElem?_eq_getElem (by omega),Option.bind_eq_some_iff] at h4;obtain ⟨us,h5,h6⟩:=h4;obtain ⟨c,r1,r2⟩:=ih _ _ _ _ _ h3 h6;exact ⟨us,c,by rw[←h1];exact h5,r1,r2⟩
    have hsp:spot=none∧b<w.heap.size:=by
     obtain ⟨us,c,h5,_⟩:=XA 0 (by omega);obtain ⟨_,h7,h8⟩:=World.cells?_some h5;have h9:=h8 0 (by omega);rw[List.getElem?_eq_getElem (by omega)] at h9;simp[Addr.add] at h9;refine ⟨by simpa using World.cell?_spot h9,?_⟩;have hnn:w.heap[b]?≠none:=by
      intro hn;simp[World.cell?,hn] at h9
     exact Nat.lt_of_not_le fun hle=>hnn (by simpa using hle)
    obtain ⟨rfl,hlt⟩:=hsp;have each:∀i,i<len→∃c,((∃us,us.length=s.size∧jD w b (off+i*s.size) us∧Rd w (fun _=>True) s us c)∧Ty s c):=by
     intro i hi;obtain ⟨us,c,h5,r1,r2⟩:=XA i hi;obtain ⟨_,h7,h8⟩:=World.cells?_some h5;refine ⟨c,⟨us,h7,fun j u hj=>?_,r1⟩,r2⟩;have hj':j<s.size:=by
      have:=(List.getElem?_eq_some_iff.1 hj).1;omega
     have h9:=h8 j hj';rw[hj] at h9;have ea:∀(o k:Nat),Addr.add ⟨b,o,none⟩ k=⟨b,o+k,none⟩:=by
      intro o k;simp only[Addr.add];split<;>simp_all
     rw[ea,ea] at h9;exact h9
    obtain ⟨l,l1,l2⟩:=pick len each;refine ⟨.ls l,⟨some ⟨b,off,none⟩,cap,by simp only[C.lQ,l1],by simp only[C.lQ,l1];exact hl,hm,fun _=>⟨b,off,rfl,trivial,hlt,fun i c hi=>(l2 i c hi).1⟩⟩,l,rfl,by omega,fun c hc=>?_⟩;obtain ⟨i,hi⟩:=List.getElem?_of_mem hc;exact (l2 i c hi).2
  ·rename_i fs hu;simp at hg;obtain ⟨h0,h1,h2⟩:=hg;obtain ⟨xs,m,_,_,h3,h4,h5⟩:=DataW.trod_struct hu ht;have:=ag7 ih fs.toList _ 0 xs (by simpa using h4) (fun i f hf=>h5 i f (by simpa using hf)) h2 (by omega);simpa using this
  ·cases hg
theorem ajR {r:Reach} {b0 n:Nat} {t:TypeId} {s:Sh} {v:Value} {d:DataW H} {ps:List MemPlace} (hg:pQ P n t s=true) (hv:Value.okWide P w r b0 t v)
  (hd:DataW.Trod enc P w base sp held t v d ps):∃c,bE w (fun _=>True) s v c∧Ty s c:=by
 obtain ⟨fuel,hf⟩:=hd;obtain ⟨c,r1,r2⟩:=aiz n t s _ _ _ hg hf;refine ⟨c,⟨_,r1,?_⟩,r2⟩;cases n with
 |zero=>simp[pQ] at hg
 |succ n=>
  unfold pQ at hg;split at hg
  ·rename_i hu;obtain ⟨_,rfl⟩:=okWide_bool hu hv;rfl
  ·rename_i hu;obtain ⟨_,rfl⟩:=okWide_int hu hv;rfl
  ·rename_i hu;obtain ⟨_,rfl⟩:=okWide_string hu hv;rfl
  ·rename_i hu;obtain ⟨_,_,_,rfl⟩:=okWide_slice hu hv;rfl
  ·rename_i hu;obtain ⟨cs,rfl,_⟩:=okWide_struct hu hv;simp at hg;simp[Sh.mk,hg.1,Value.cells]
  ·cases hg
def zI (P:Program) (n:Nat):List TypeId→List Sh→Bool
 | [],[]=>true
 |t::ts,s::l=>pQ P n t s&&zI P n ts l
 |_,_=>false
theorem JY {r:Reach} {b0 n:Nat}:∀ {ts:List TypeId} {bM:List Sh} {vs:List Value} {ds:List (DataW H)} {ps:List MemPlace},
  zI P n ts bM=true→(∀(j:Nat) t v,ts[j]?=some t→vs[j]?=some v→Value.okWide P w r b0 t v)→DataW.TrodAll enc P w base sp held ts vs ds ps→
  ∃cs,bZ w (fun _=>True) (bM.zip cs) vs∧CW bM cs
 | [],[],vs,ds,ps,_,_,h=>by
  cases vs with
  |nil=>exact ⟨[],rfl,rfl⟩
  |cons _ _=>simp[DataW.TrodAll] at h
 |t::ts,s::l,vs,ds,ps,hg,hv,h=>by
  cases vs with
  |nil=>simp[DataW.TrodAll] at h
  |cons v vs=>
   cases ds with
   |nil=>simp[DataW.TrodAll] at h
   |cons d ds=>
    obtain ⟨p,q,h1,h2,_⟩:=h;simp[zI] at hg;obtain ⟨c,r1,r2⟩:=ajR hg.1 (hv 0 t v rfl rfl) h1;obtain ⟨cs,r3,r4⟩:=JY hg.2 (fun j t' v' ht' hv'=>hv (j+1) t' v' (by simpa using ht') (by simpa using hv')) h2;exact ⟨c::cs,⟨v,vs,rfl,r1,r3⟩,c,cs,rfl,r2,r4⟩
 | [],_::_,_,_,_,h,_,_|_::_,[],_,_,_,h,_,_=>by simp[zI] at h
theorem Jp (hl:laidOutB P=true) {W W':World} (hb:Below W.heap.size W W'):∀ {ts:List TypeId} {vs:List Value} {ds:List (DataW H)} {ps:List MemPlace},
  (ts.all fun t=>P.readableRec t&&decide (t<P.types.size))=true→DataW.TrodAll enc P W 0 (fun _=>true) true ts vs ds ps→
  DataW.TrodAll enc P W' 0 (fun b=>decide (b<W.heap.size)) true ts vs ds ps
 | [],[],[],_,_,h=>h
 |t::ts,v::vs,d::ds,ps,hr,⟨p,q,h1,h2,h3⟩=>by
  simp at hr;have lt:∀x∈p,x.block<W.heap.size:=by
   obtain ⟨m,hm⟩:=h1;exact DataW.trod_lt m _ _ _ hm
  exact ⟨p,q,Below.trod hl hr.1.1 hr.1.2 h1 hb lt,Jp hl hb (by simpa using hr.2) h2,h3⟩
 | [],[],_::_,_,_,h| [],_::_,_,_,_,h|_::_,[],_,_,_,h|_::_,_::_,[],_,_,h=>by simp[DataW.TrodAll] at h
end
theorem Ig {H:Type} {enc:TypeId×Value→H} {P:Program} {w:World} {base:Nat} {sp:Nat→Bool} {held:Bool}:∀ {ts:List TypeId} {vs:List Value} {ds:List (DataW H)} {ps:List MemPlace},
  DataW.TrodAll enc P w base sp held ts vs ds ps→ds.length=ts.length
 | [],[],[],_,_=>rfl
 |_::_,_::_,_::_,_,⟨_,_,_,h,_⟩=>by simp[Ig h]
 | [],[],_::_,_,h| [],_::_,_,_,h|_::_,[],_,_,h|_::_,_::_,[],_,h=>by simp[DataW.TrodAll] at h
theorem lifted {H:Type} {enc:TypeId×Value→H} {C:Checked} {os:Os} {f:FuncId} {fn:Func} {s:ChangeSpec} {conds:List PathCond} (hlt:f<1000000) (aN:KA C.prog=true) (own:ownKnob C.prog.godebug=none) (laidOut:laidOutB C.prog=true)
  (started:os.Started) (noInit:C.prog.inits.idxOf? f=none) (hfn:C.prog.funcs[f]?=some fn)
  (witness:∃(w:World) (tape:Tape) (i:Input),w.os=os∧(w.forCall tape i).Shaped C.prog∧i.vars=[]∧Input.okWide C.prog (w.forCall tape i) .any w.heap.size f i∧
   s.pre6 enc C.prog fn conds false (w.forCall tape i).memory i.args∧({}:Assume).holds C.prog (lone (Frame.enter C.prog f i.args .normal) [] (w.forCall tape i)))
  {bM:List Sh} (hgood:zI C.prog 6 fn.params.toList bM=true) (hread:(fn.params.toList.all fun t=>C.prog.readableRec t&&decide (t<C.prog.types.size))=true)
  {tb:TypeId} (hres:fn.resultTypes= #[tb]) (K8:C.prog.underlying tb=some .bool) (hvars:s.vars=[])
  (hspec:∀(ds:List (DataW H)),ds.length=fn.params.size→s.fn H ds= {results:=[.lit (.bool true)],args:=ds})
  (hpc:∀cs,CW bM cs→PC C.prog f (bM.zip cs) [(.bool,.bool true)]):
  ReturnsInHanded {} C os f .any (s.pre6 enc C.prog fn conds false) (s.post enc C.prog fn false true false false):=by
 refine returnsInHanded_of_change own started noInit hfn witness ?_;intro W base args ds gs before hval hW hcnd _;have hW':=hW;obtain ⟨p,q,hA,hV,rfl,hfz,hnd⟩:=hW;rw[hvars] at hV;obtain ⟨rfl,rfl⟩:=trodVars_none hV;obtain ⟨cs,r1,r2⟩:=JY hgood (fun j t v ht hv=>hval j t v (by simpa using ht) (by simpa using hv)) hA;have hlen:=Ig hA;have hcall:=((hpc cs r2).kK hlt).2 W _ args.toList (ajg aN W) r1;simp only[Array.toArray_toList] at hcall;refine hcall.mono fun e W' ⟨v,he,hv,bH⟩=>?_;subst he;obtain ⟨vs,hvs,hv⟩:=hv;obtain ⟨u,r,rfl,⟨us,hu,rfl⟩,hr⟩:=hvs;simp only[bZ] at hr;subst hr;simp only[Rd] at hu;subst hu;simp[Sh.mk,Sh.isAgg] at hv;subst hv;have hsp:=hspec (ds++ []) (by simpa using hlen);refine ⟨_,rfl,ds,[],_,[],p,[],hW',?_,?_,?_,bH.frame _,fun h=>by cases h⟩
 ·rw[hsp,hres];exact trodAll_mk1 (shut_bool K8 _)
 ·rw[hsp];simp only[List.append_nil];exact Jp laidOut bH hread hA
 ·rw[hsp,hvars];rfl
end Go.Vc
namespace Go.Plain
structure Pk where
 hd:Hd
 ak:Nat
 ext:List UInt8
 pay:List UInt8
 pad:Nat
 deriving DecidableEq
def Pk.zero:Pk:=⟨Hd.zero,0,[],[],0⟩
def Pk.ok (k:Pk):Prop:=k.hd.ok∧k.ak<65536
def Pk.sum (k:Pk):Nat:=12+4*k.hd.aI.length+k.pay.length+k.pad+if k.hd.ext then 4+k.ext.length else 0
def Pk.fits (k:Pk):Prop:=k.hd.right∧k.ext.length%4=0∧k.ext.length/4≤65535∧(k.hd.ext=false→k.ak=0∧k.ext=[])∧(if k.hd.pad then 1≤k.pad∧k.pad≤255 else k.pad=0)
instance (k:Pk):Decidable k.fits:=by unfold Pk.fits;exact inferInstance
def Pk.right (k:Pk):Prop:=k.fits∧k.sum≤65535
instance (k:Pk):Decidable k.right:=by unfold Pk.right;exact inferInstance
def jd (k:Pk):List UInt8:=if k.hd.ext then aJ 2 k.ak++(aJ 2 (k.ext.length/4)++k.ext) else []
def dL (k:Pk) (t:List UInt8):List UInt8:=k.hd.bytes++(jd k++(k.pay++t))
def zZ (n:Nat) (t:List UInt8):Prop:=t.length=n∧(n≠0→at_ t (n-1)=n)
def trail (n:Nat):List UInt8:=if n=0 then [] else List.replicate (n-1) 0++ [UInt8.ofNat n]
def Pk.bytes (k:Pk):List UInt8:=dL k (trail k.pad)
theorem Jw {n:Nat} (h:n≤255):zZ n (trail n):=by
 unfold zZ trail;split
 ·rename_i h;subst h;simp
 ·refine ⟨by simp;omega,fun _=>?_⟩;simp only[at_,List.getD_eq_getElem?_getD];rw[List.getElem?_append_right (by simp)];simp;omega
def dF (b:List UInt8):Nat:=if b.length=0 then 0 else if at_ b (b.length-1)<1∨b.length<at_ b (b.length-1) then 0 else at_ b (b.length-1)
def bS (b:List UInt8):List UInt8:=if (Hd.of b).ext then (b.drop (hdN b+4)).drop (4*num b (hdN b+2) 2) else b.drop (hdN b)
def aZ (b:List UInt8):Int:=
 if 65535<b.length then 4
 else if fu b≠0 then fu b
 else if (Hd.of b).ext=true∧(b.length<hdN b+4∨b.length<hdN b+4+4*num b (hdN b+2) 2) then 2
 else if (Hd.of b).pad=true∧dF (bS b)=0 then 5
 else 0
def dB (b:List UInt8):Nat:=if (Hd.of b).pad then dF (bS b) else 0
def aL (b:List UInt8):Pk:=
 {hd:=Hd.of b
  ak:=if (Hd.of b).ext then num b (hdN b) 2 else 0
  ext:=if (Hd.of b).ext then (b.drop (hdN b+4)).take (4*num b (hdN b+2) 2) else []
  pay:=(bS b).take ((bS b).length-dB b)
  pad:=dB b}
def eB (b:List UInt8):Pk:=if aZ b=0 then aL b else Pk.zero
def Dp (b:List UInt8):List UInt8:=if aZ b=0 then (bS b).drop ((bS b).length-dB b) else []
theorem Wp (a t:List UInt8) (n:Nat) (h:zZ n t) (h1:1≤n):dF (a++t)=n:=by
 obtain ⟨h2,h3⟩:=h;have h3:=h3 (by omega);have e:at_ (a++t) ((a++t).length-1)=n:=by
  rw[←h3];simp only[at_,List.getD_eq_getElem?_getD];rw[List.getElem?_append_right (by simp;omega)];congr 3
  simp;omega
 have hl:(a++t).length=a.length+n:=by rw[List.length_append,h2]
 unfold dF;rw[e,if_neg (by omega),if_neg (by omega)]
theorem Zq (a b c:List UInt8) (v:Nat) (hb:b=aJ 2 v) (hv:v<65536):num (a++(b++c)) a.length 2=v:=by
 rw[BO (by rw[hb,iZ]),hb,zm];exact Nat.mod_eq_of_lt hv
theorem afq (k:Pk):(jd k).length=if k.hd.ext then 4+k.ext.length else 0:=by
 unfold jd;split<;>simp<;>omega
theorem yC (k:Pk) (t:List UInt8) (ht:t.length=k.pad):(dL k t).length=k.sum:=by
 unfold dL Pk.sum;simp only[List.length_append,Hd.tJ,afq,ht];omega
theorem Pk.back (k:Pk) (hr:k.right) (ho:k.ok) (t:List UInt8) (ht:zZ k.pad t):aZ (dL k t)=0∧aL (dL k t)=k∧(bS (dL k t)).drop ((bS (dL k t)).length-dB (dL k t))=t:=by
 obtain ⟨⟨f1,f2,f3,f4,f5⟩,f6⟩:=hr;obtain ⟨o1,o2⟩:=ho;have hl:=yC k t ht.1;obtain ⟨b1,b2,b3⟩:=Hd.back k.hd f1 o1 (jd k++(k.pay++t));have b1:fu (dL k t)=0:=b1;have b2:Hd.of (dL k t)=k.hd:=b2;have hN:hdN (dL k t)=k.hd.bytes.length:=by
  unfold hdN;rw[if_pos b1,Hd.tJ];have:at_ (dL k t) 0%16=k.hd.aI.length:=b3;rw[this]
 have hleft:bS (dL k t)=k.pay++t∧(k.hd.ext=true→num (dL k t) (hdN (dL k t)) 2=k.ak∧num (dL k t) (hdN (dL k t)+2) 2=k.ext.length/4∧((dL k t).drop (hdN (dL k t)+4)).take (4*num (dL k t) (hdN (dL k t)+2) 2)=k.ext):=by
  unfold bS;rw[b2,hN];by_cases he:k.hd.ext=true
  ·have e1:dL k t=k.hd.bytes++(aJ 2 k.ak++(aJ 2 (k.ext.length/4)++(k.ext++(k.pay++t)))):=by
    unfold dL jd;rw[if_pos he];simp
   have n1:num (dL k t) k.hd.bytes.length 2=k.ak:=by rw[e1];exact Zq _ _ _ _ rfl o2
   have n2:num (dL k t) (k.hd.bytes.length+2) 2=k.ext.length/4:=by
    have:=Zq (k.hd.bytes++aJ 2 k.ak) (aJ 2 (k.ext.length/4)) (k.ext++(k.pay++t)) _ rfl (by omega);rw[List.length_append,iZ,List.append_assoc] at this;rw[e1];exact this
   have e4:4*(k.ext.length/4)=k.ext.length:=by omega
   have d:(dL k t).drop (k.hd.bytes.length+4)=k.ext++(k.pay++t):=by
    have:dL k t=(k.hd.bytes++(aJ 2 k.ak++aJ 2 (k.ext.length/4)))++(k.ext++(k.pay++t)):=by rw[e1];simp
    rw[this];apply List.drop_left';simp
   rw[if_pos he,n2,d,e4,n1];refine ⟨List.drop_left' rfl,fun _=>⟨rfl,rfl,List.take_left' rfl⟩⟩
  ·rw[if_neg he];refine ⟨?_,fun h=>absurd h he⟩;unfold dL jd;rw[if_neg he,List.nil_append];exact List.drop_left' rfl
 obtain ⟨hl1,hl2⟩:=hleft;have hp:dB (dL k t)=k.pad:=by
  unfold dB;rw[b2,hl1];by_cases LU:k.hd.pad=true
  ·rw[if_pos LU] at f5 ⊢;exact Wp _ _ _ ht f5.1
  ·rw[if_neg LU] at f5 ⊢;exact f5.symm
 have ht1:=ht.1;refine ⟨?_,?_,?_⟩
 ·unfold aZ;rw[if_neg (by omega),if_neg (fun h=>h b1),b2,hl1,if_neg,if_neg]
  ·rintro ⟨h1,h2⟩;rw[if_pos h1] at f5;rw[Wp _ _ _ ht f5.1] at h2;omega
  ·rintro ⟨h1,h2⟩;obtain ⟨_,n2,_⟩:=hl2 h1;rw[n2,hl,hN,Hd.tJ] at h2;unfold Pk.sum at h2;rw[if_pos h1] at h2;omega
 ·unfold aL;rw[hp,hl1,b2];have hcut:(k.pay++t).take ((k.pay++t).length-k.pad)=k.pay:=by
   apply List.take_left';rw[List.length_append];omega
  rw[hcut];by_cases he:k.hd.ext=true
  ·obtain ⟨n1,_,n3⟩:=hl2 he;rw[if_pos he,if_pos he,n1,n3]
  ·rw[if_neg he,if_neg he];obtain ⟨q1,q2⟩:=f4 (by simpa using he);rw[←q1];conv=>rhs;rw[show k=⟨k.hd,k.ak,k.ext,k.pay,k.pad⟩ from rfl]
   rw[q2]
 ·rw[hp,hl1];apply List.drop_left';rw[List.length_append];omega
theorem Qx (b:List UInt8) (n m:Nat):(b.drop n).take m++b.drop (n+m)=b.drop n:=by rw[←List.drop_drop,List.take_append_drop]
theorem Cb (b:List UInt8):dF b≤b.length∧dF b≤255∧(dF b≠0→at_ b (b.length-1)=dF b):=by
 unfold dF;have:=fF b (b.length-1);split
 ·simp
 ·split
  ·simp
  ·refine ⟨by omega,by omega,fun _=>rfl⟩
theorem Pk.same (b:List UInt8) (h:aZ b=0):(aL b).right∧(aL b).ok∧zZ (aL b).pad ((bS b).drop ((bS b).length-dB b))∧b=dL (aL b) ((bS b).drop ((bS b).length-dB b)):=by
 unfold aZ at h;split at h
 ·cases h
 rename_i hb;split at h
 ·rename_i h2;exact absurd h h2
 rename_i h2;have h2:fu b=0:=by simpa using h2
 split at h
 ·cases h
 rename_i h3;split at h
 ·cases h
 rename_i h4;clear h;obtain ⟨s1,s2,s3,s4⟩:=Hd.same b h2;have hz:=uj.1 h2;have hN:hdN b=12+4*(at_ b 0%16):=by unfold hdN;rw[if_pos h2]
 have hlb:(Hd.of b).bytes.length=hdN b:=by rw[Hd.tJ,s3,hN]
 have hsplit:b=(Hd.of b).bytes++b.drop (hdN b):=by
  rw[s4,←hN,List.take_append_drop]
 obtain ⟨t1,t2,t3⟩:=Cb (bS b);have LU:dB b≤(bS b).length:=by unfold dB;split<;>omega
 have hx:b.drop (hdN b)=jd (aL b)++bS b∧(aL b).ext.length%4=0∧(aL b).ext.length/4≤65535∧(aL b).ak<65536:=by
  unfold jd aL bS;simp only;by_cases he:(Hd.of b).ext=true
  ·rw[if_pos he,if_pos he,if_pos he,if_pos he];have hlen:hdN b+4+4*num b (hdN b+2) 2≤b.length:=by
    have:¬(b.length<hdN b+4∨b.length<hdN b+4+4*num b (hdN b+2) 2):=fun hh=>h3 ⟨he,hh⟩;omega
   have hn:=oo b (hdN b+2) 2;have le:((b.drop (hdN b+4)).take (4*num b (hdN b+2) 2)).length=4*num b (hdN b+2) 2:=by
    simp;omega
   rw[le];refine ⟨?_,by omega,by omega,oo b (hdN b) 2⟩;have e1:aJ 2 (num b (hdN b) 2)=(b.drop (hdN b)).take 2:=zH (by omega);have e2:aJ 2 (num b (hdN b+2) 2)=(b.drop (hdN b+2)).take 2:=zH (by omega);rw[show 4*num b (hdN b+2) 2/4=num b (hdN b+2) 2 by omega,e1,e2];rw[List.append_assoc,List.append_assoc,List.take_append_drop];have c1:(b.drop (hdN b+2)).take 2++b.drop (hdN b+4)=b.drop (hdN b+2):=by
    exact Qx b (hdN b+2) 2
   have c2:(b.drop (hdN b)).take 2++b.drop (hdN b+2)=b.drop (hdN b):=by
    exact Qx b (hdN b) 2
   rw[c1,c2]
  ·rw[if_neg he,if_neg he,if_neg he,if_neg he];exact ⟨by simp,by simp,by simp,by omega⟩
 obtain ⟨x1,x2,x3,x4⟩:=hx;have hpay:(aL b).pay++(bS b).drop ((bS b).length-dB b)=bS b:=List.take_append_drop _ _;have hb2:b=dL (aL b) ((bS b).drop ((bS b).length-dB b)):=by
  unfold dL;rw[hpay,←x1];exact hsplit
 have htl:((bS b).drop ((bS b).length-dB b)).length=(aL b).pad:=by
  rw[List.length_drop];show _=dB b;omega
 have hsum:=yC (aL b) _ htl;rw[←hb2] at hsum;have akt:if (aL b).hd.pad then 1≤(aL b).pad∧(aL b).pad≤255 else (aL b).pad=0:=by
  show if (Hd.of b).pad then 1≤dB b∧dB b≤255 else dB b=0
  unfold dB;by_cases hq:(Hd.of b).pad=true
  ·rw[if_pos hq,if_pos hq];have:dF (bS b)≠0:=fun hh=>h4 ⟨hq,hh⟩;omega
  ·rw[if_neg hq,if_neg hq]
 refine ⟨⟨⟨s1,x2,x3,fun he=>?_,akt⟩,by omega⟩,⟨s2,x4⟩,⟨htl,fun hne=>?_⟩,hb2⟩
 ·have he:(Hd.of b).ext=false:=he;simp[aL,he]
 ·have hpp:(aL b).pad=dB b:=rfl;rw[hpp] at hne ⊢;have hq:dB b=dF (bS b):=by
   unfold dB at hne ⊢;split at hne
   ·rename_i hh;rw[if_pos hh]
   ·exact absurd rfl hne
  have:=t3 (by omega);rw[←hq] at this;have e:at_ ((bS b).drop ((bS b).length-dB b)) (dB b-1)=at_ (bS b) ((bS b).length-1):=by
   simp only[at_,List.getD_eq_getElem?_getD,List.getElem?_drop];rw[show (bS b).length-dB b+(dB b-1)=(bS b).length-1 by omega]
  exact e.trans this
end Go.Plain
namespace Go.Plain
def putAt (b:List UInt8) (k:Nat) (x:List UInt8):List UInt8:=b.take k++(x++b.drop (k+x.length))
theorem yN (A x y R:List UInt8) (h:x.length=y.length):putAt (A++(x++R)) A.length y=A++(y++R):=by
 unfold putAt;rw[List.take_left,←List.drop_drop,List.drop_left,←h,List.drop_left]
theorem afY (A x y R:List UInt8) (n:Nat) (hn:n=A.length) (h:x.length=y.length):putAt (A++(x++R)) n y=A++(y++R):=by rw[hn];exact yN A x y R h
theorem qx (b:List UInt8) (k:Nat) (x:List UInt8) (h:k+x.length≤b.length):(putAt b k x).length=b.length:=by
 unfold putAt;simp;omega
theorem vU (b:List UInt8) (k:Nat) (y:UInt8) (h:k<b.length):b.set k y=putAt b k [y]:=by
 unfold putAt;rw[List.set_eq_take_append_cons_drop,if_pos h];rfl
def jW (aj:Bool) (id:Int) (old:Nat):UInt8:=if aj then UInt8.ofNat (id.toNat%16*16+old%16) else UInt8.ofNat id.toNat
def xL (aj:Bool) (id:Int) (n:Nat):List UInt8:=if aj then [UInt8.ofNat (16*id.toNat+n-1)] else [UInt8.ofNat id.toNat,UInt8.ofNat n]
theorem yT (aj:Bool) (e:El):enc aj e=xL aj e.id e.data.length++e.data:=by unfold enc xL;cases aj<;>rfl
theorem afu (aj:Bool) (id:Int) (n:Nat):(xL aj id n).length=ahead aj:=by unfold xL ahead;cases aj<;>rfl
theorem XY {aj:Bool} {e:El} (hf:fM aj e) (id:Int) (h0:0≤id) (h1:aj=true→id≤14) (A R:List UInt8):
  putAt (A++(enc aj e++R)) A.length [jW aj id (at_ (A++(enc aj e++R)) A.length)]=A++(enc aj ⟨id,e.data⟩++R):=by
 have a0:at_ (A++(enc aj e++R)) A.length=at_ (enc aj e++R) 0:=Ir;rw[a0,yT,yT];unfold xL jW;cases aj with
 |true=>
  obtain ⟨f1,f2,f3,f4⟩:=tO hf;have h14:=h1 rfl;simp only[if_true,List.cons_append,List.nil_append];have e1:at_ (UInt8.ofNat (16*e.id.toNat+e.data.length-1)::(e.data++R)) 0=16*e.id.toNat+e.data.length-1:=by
   simp only[at_,List.getD_cons_zero,UInt8.toNat_ofNat'];omega
  rw[e1];have:=yN A [UInt8.ofNat (16*e.id.toNat+e.data.length-1)] [UInt8.ofNat (id.toNat%16*16+(16*e.id.toNat+e.data.length-1)%16)] (e.data++R) rfl;simp only[List.cons_append,List.nil_append] at this;rw[this];congr 3
  omega
 |false=>
  simp only[Bool.false_eq_true,if_false,List.cons_append,List.nil_append];have:=yN A [UInt8.ofNat e.id.toNat] [UInt8.ofNat id.toNat] (UInt8.ofNat e.data.length::(e.data++R)) rfl;simpa using this
theorem Jz {aj:Bool} {e:El} (d:List UInt8) (hd:d.length=e.data.length) (A R:List UInt8):
  putAt (A++(enc aj e++R)) (A.length+ahead aj) d=A++(enc aj ⟨e.id,d⟩++R):=by
 rw[yT,yT];simp only[hd];have:=afY (A++xL aj e.id e.data.length) e.data d R (A.length+ahead aj) (by rw[List.length_append,afu]) hd.symm;simpa using this
def dJ (p:Pl):Prop:=p.drops≠[]∨p.adds≠[]
instance (p:Pl):Decidable (dJ p):=by unfold dJ;infer_instance
def dP (p:Pl):Prop:=p.maps≠[]∨p.over≠[]∨dJ p
instance (p:Pl):Decidable (dP p):=by unfold dP;infer_instance
def fA (p:Pl):Prop:=¬dJ p∧p.np=false
instance (p:Pl):Decidable (fA p):=by unfold fA;infer_instance
def gK (p:Pl) (h:Hd):Hd:=
 {h with
  mark:=if p.sm then p.m else h.mark
  typ:=if p.st then p.ty else h.typ
  seq:=if p.sq then p.seq.toNat else h.seq
  time:=if p.aY then p.time.toNat else h.time
  aH:=if p.ss then p.aH.toNat else h.aH
  pad:=if p.np then false else h.pad}
def gV (p:Pl) (k:Pk):Pk:= {k with hd:=gK p k.hd,pad:=if p.np then 0 else k.pad}
def gJ (k:Pk):Option (List El):=if k.hd.ext then (if (spots k.ak k.ext).2=0 then some (iC k.ak k.ext) else none) else some []
def dW (p:Pl) (k:Pk):Option (List El):=match gJ k with
 |none=>none
 |some l=>if iB p l∧(dJ p∨k.ak≠48862∨∀m∈p.maps,m.to≤14) then some (gY p l) else none
def bO (k:Pk):Bool:=decide (k.ak=48862)
def lX (p:Pl) (aj:Bool) (x:List UInt8) (s:Sp):List UInt8:=
 let y:=if (s.id:Int)∈p.maps.map (·.fr) then putAt x (s.pos-ahead aj) [jW aj (newId p s.id) (at_ x (s.pos-ahead aj))] else x
 if (s.id:Int)∈aK p.over then putAt y s.pos (fK p s.id []) else y
def ig (p:Pl) (k:Pk):List UInt8:=(spots k.ak k.ext).1.foldl (lX p (bO k)) k.ext
def bJ (p:Pl) (k:Pk) (l:List El):Pk:=
 if dP p then
  if dJ p then {gV p k with hd:= {gK p k.hd with ext:=decide (l≠[])},ak:=if l=[] then 0 else mI l,ext:=if l=[] then [] else nJ l}
  else {gV p k with ext:=ig p k}
 else gV p k
def behind (p:Pl) (k:Pk):Option Pk:=
 if bR p then
  match (if dP p then dW p k else some []) with
  |none=>none
  |some l=>if (bJ p k l).right then some (bJ p k l) else none
 else none
theorem yR {p:Pl} {x:Int} (h:x∉p.maps.map (·.fr)):newId p x=x:=by
 unfold newId;rw[List.find?_eq_none.2];intro m hm he;exact h (List.mem_map.2 ⟨m,hm,by simpa using he⟩)
theorem EG {p:Pl} {x:Int} (d:List UInt8) (h:x∉aK p.over):fK p x d=d:=by
 unfold fK;rw[List.find?_eq_none.2];intro m hm he;exact h (List.mem_map.2 ⟨m,hm,by simpa using he⟩)
theorem Vf {p:Pl} {x:Int} (d d':List UInt8) (h:x∈aK p.over):fK p x d=fK p x d':=by
 unfold fK;cases hf:p.over.find? (·.id==x) with
 |some e=>rfl
 |none=>
  rw[List.find?_eq_none] at hf;obtain ⟨e,he,hx⟩:=List.mem_map.1 h;exact absurd (by simpa using hx) (hf e he)
theorem Cn {p:Pl} {x:Int} (h:x∈p.maps.map (·.fr)):∃m∈p.maps,m.fr=x∧newId p x=m.to:=by
 unfold newId;cases hf:p.maps.find? (·.fr==x) with
 |some m=>exact ⟨m,List.mem_of_find?_eq_some hf,by simpa using List.find?_some hf,rfl⟩
 |none=>
  rw[List.find?_eq_none] at hf;obtain ⟨e,he,hx⟩:=List.mem_map.1 h;exact absurd (by simpa using hx) (hf e he)
theorem JH {p:Pl} {x:Int} (d:List UInt8) (h:x∈aK p.over):∃e∈p.over,e.id=x∧fK p x d=e.data:=by
 unfold fK;cases hf:p.over.find? (·.id==x) with
 |some m=>exact ⟨m,List.mem_of_find?_eq_some hf,by simpa using List.find?_some hf,rfl⟩
 |none=>
  rw[List.find?_eq_none] at hf;obtain ⟨e,he,hx⟩:=List.mem_map.1 h;exact absurd (by simpa using hx) (hf e he)
theorem VF {p:Pl} (hp:bR p) {x:Int} (hx:1≤x∧x≤255):1≤newId p x∧newId p x≤255:=by
 by_cases h:x∈p.maps.map (·.fr)
 ·obtain ⟨m,hm,_,e⟩:=Cn h;have:=oq hp.2.2.1 m.to (List.mem_map.2 ⟨m,hm,rfl⟩);rw[e];exact this
 ·rw[yR h];exact hx
theorem UU {p:Pl} (h14:∀m∈p.maps,m.to≤14) {x:Int} (hx:x≤14):newId p x≤14:=by
 by_cases h:x∈p.maps.map (·.fr)
 ·obtain ⟨m,hm,_,e⟩:=Cn h;rw[e];exact h14 m hm
 ·rw[yR h];exact hx
theorem agf {p:Pl} (hp:bR p) {aj:Bool} (h14:aj=true→∀m∈p.maps,m.to≤14) {e:El} (hf:fM aj e) (hd:(fK p e.id e.data).length=e.data.length) (A R:List UInt8):
  lX p aj (A++(enc aj e++R)) ⟨e.id.toNat,A.length+ahead aj,e.data.length⟩=A++(enc aj (iq p e)++R):=by
 have hid:1≤e.id∧e.id≤255∧(aj=true→e.id≤14):=by
  cases aj with
  |true=>have:=tO hf;exact ⟨by omega,by omega,fun _=>by omega⟩
  |false=>have:=Iq hf;exact ⟨by omega,by omega,fun h=>by cases h⟩
 have ei:((e.id.toNat:Nat):Int)=e.id:=by omega
 have hn:=VF hp (x:=e.id) ⟨hid.1,hid.2.1⟩;have hsub:A.length+ahead aj-ahead aj=A.length:=by omega
 unfold lX;simp only[ei,hsub];have h1:(if e.id∈p.maps.map (·.fr) then putAt (A++(enc aj e++R)) A.length [jW aj (newId p e.id) (at_ (A++(enc aj e++R)) A.length)] else A++(enc aj e++R))=A++(enc aj ⟨newId p e.id,e.data⟩++R):=by
  by_cases h:e.id∈p.maps.map (·.fr)
  ·rw[if_pos h];exact XY hf _ (by omega) (fun hh=>UU (h14 hh) (hid.2.2 hh)) A R
  ·rw[if_neg h,yR h]
 rw[h1];unfold iq;by_cases h:e.id∈aK p.over
 ·rw[if_pos h,Vf [] e.data h];exact Jz (e:=⟨newId p e.id,e.data⟩) _ hd A R
 ·rw[if_neg h,EG _ h]
theorem Je {α β:Type} (f:α→β→α) {γ:Type}:∀(l:List β) (m:List γ) (a:α),l.length=m.length→(l.zip m).foldl (fun x z=>f x z.1) a=l.foldl f a
 | [],_,_,_=>by simp
 |b::l,c::m,a,h=>by
  rw[List.zip_cons_cons,List.foldl_cons,List.foldl_cons];exact Je f l m _ (by simpa using h)
theorem WX {p:Pl} (hp:bR p) {aj:Bool} (h14:aj=true→∀m∈p.maps,m.to≤14) {l:List (Nat×El)} {r:List UInt8} (hf:∀x∈l,fM aj x.2) (hd:∀x∈l,(fK p x.2.id x.2.data).length=x.2.data.length):
  (gy aj 0 l).foldl (lX p aj) (lay aj l++r)=lay aj (rY (iq p) l)++r:=by
 have:=ET (aj:=aj) (g:=iq p) (f:=fun x s _=>lX p aj x s) r l [] (fun x hx=>hd x hx) (fun A R x hx=>agf hp h14 (hf x hx) (hd x hx) A R);simp only[List.length_nil,List.nil_append] at this;rw[←this];exact (Je (lX p aj) _ _ _ (by rw[A8,List.length_map])).symm
end Go.Plain
namespace Go.Plain
inductive Dr where
 |num (v n:Nat)
 |sec
 |kP (to:Int)
 |data (d:List UInt8)
structure dH where
 field:Int
 pos:Nat
 size:Nat
 dr:Dr
def z8 (p:Pl) (b:Nat):Nat:=
 let x:=if p.st then b/128*128+p.ty.toNat else b
 let y:=if p.sm then x%128 else x
 if p.m then 128+y%128 else y
def Dr.draw (p:Pl) (aj:Bool) (was:List UInt8):Dr→List UInt8
 | .num v n=>aJ n v
 | .sec=> [UInt8.ofNat (z8 p (at_ was 0))]
 | .kP to=> [jW aj to (at_ was 0)]
 | .data d=>d
def j5 (p:Pl):List dH:=
 (if p.sm=true∨p.st=true then [⟨2,1,1,.sec⟩] else [])++((if p.sq then [⟨3,2,2,.num p.seq.toNat 2⟩] else [])++((if p.aY then [⟨4,4,4,.num p.time.toNat 4⟩] else [])++(if p.ss then [⟨5,8,4,.num p.aH.toNat 4⟩] else [])))
def gD (p:Pl) (aj:Bool) (fr:Nat) (s:Sp):List dH:=
 (p.maps.filter fun m=>decide (m.fr=(s.id:Int))).map (fun m=>⟨9,fr+s.pos-ahead aj,1,.kP m.to⟩)++(p.over.filter fun e=>decide (e.id=(s.id:Int)∧e.data≠[])).map (fun e=>⟨9,fr+s.pos,s.size,.data e.data⟩)
def fT (k:Pk):Nat:=12+4*k.hd.aI.length+4
def oG (p:Pl) (k:Pk):List dH:=if k.hd.ext=true then (spots k.ak k.ext).1.flatMap (gD p (bO k) (fT k)) else []
def strokes (p:Pl) (k:Pk):List dH:=j5 p++oG p k
def iW (p:Pl) (aj:Bool) (b:List UInt8) (s:dH):List UInt8:=putAt b s.pos (s.dr.draw p aj ((b.drop s.pos).take s.size))
def wW (p:Pl) (k:Pk) (b:List UInt8):List UInt8:=(strokes p k).foldl (iW p (bO k)) b
theorem filter_map_one {α:Type} {l:List α} {f:α→Int} (hn:(l.map f).Nodup) {x:α} (hx:x∈l):l.filter (fun y=>decide (f y=f x))=[x]:=by
 induction l with
 |nil=>cases hx
 |cons a l ih=>
  simp only[List.map_cons,List.nodup_cons] at hn;rcases List.mem_cons.1 hx with rfl|h
  ·rw[List.filter_cons_of_pos (by simp),List.filter_eq_nil_iff.2];intro y hy he;exact hn.1 (List.mem_map.2 ⟨y,hy,by simpa using he⟩)
  ·rw[List.filter_cons_of_neg,ih hn.2 h];intro he;exact hn.1 (by rw[show f a=f x by simpa using he];exact List.mem_map.2 ⟨x,h,rfl⟩)
theorem acL {α:Type} {l:List α} {f:α→Int} {x:Int} (hx:x∉l.map f):l.filter (fun y=>decide (f y=x))=[]:=by
 rw[List.filter_eq_nil_iff];intro y hy he;exact hx (List.mem_map.2 ⟨y,hy,by simpa using he⟩)
theorem ain (b:List UInt8) (k:Nat) (h:k<b.length):at_ ((b.drop k).take 1) 0=at_ b k:=by
 rw[List.drop_eq_getElem_cons h];simp[at_,List.getD,h]
theorem aiE {p:Pl} (hp:bR p) {aj:Bool} (h14:aj=true→∀m∈p.maps,m.to≤14) {e:El} (hf:fM aj e) (hd:(fK p e.id e.data).length=e.data.length) (A R:List UInt8) (fr pos:Nat) (hpos:fr+pos=A.length+ahead aj):
  (gD p aj fr ⟨e.id.toNat,pos,e.data.length⟩).foldl (iW p aj) (A++(enc aj e++R))=A++(enc aj (iq p e)++R):=by
 have hid:1≤e.id∧e.id≤255∧(aj=true→e.id≤14):=by
  cases aj with
  |true=>have:=tO hf;exact ⟨by omega,by omega,fun _=>by omega⟩
  |false=>have:=Iq hf;exact ⟨by omega,by omega,fun h=>by cases h⟩
 have ei:((e.id.toNat:Nat):Int)=e.id:=by omega
 have hn:=VF hp (x:=e.id) ⟨hid.1,hid.2.1⟩;have hsub:fr+pos-ahead aj=A.length:=by omega
 have hne:0<(enc aj e).length:=by rw[tN];unfold ahead;split<;>omega
 have nd1:(p.maps.map (·.fr)).Nodup:=((mH _).1 hp.2.1).2;have GA:(p.over.map (·.id)).Nodup:=((mH _).1 (rP hp.2.2.2.2.1)).2;unfold gD;simp only[ei,hsub];rw[List.foldl_append];have h1:((p.maps.filter fun m=>decide (m.fr=e.id)).map (fun m=>(⟨9,A.length,1,.kP m.to⟩:dH))).foldl (iW p aj) (A++(enc aj e++R))=A++(enc aj ⟨newId p e.id,e.data⟩++R):=by
  by_cases h:e.id∈p.maps.map (·.fr)
  ·obtain ⟨m,hm,he,hnew⟩:=Cn h;rw[←he,filter_map_one nd1 hm,he,hnew];simp only[List.map_cons,List.map_nil,List.foldl_cons,List.foldl_nil];unfold iW Dr.draw;simp only;rw[ain _ _ (by simp;omega)];have:=oq hp.2.2.1 m.to (List.mem_map.2 ⟨m,hm,rfl⟩);exact XY hf _ (by omega) (fun hh=>h14 hh m hm) A R
  ·rw[acL h,yR h];rfl
 rw[h1];unfold iq;by_cases h:e.id∈aK p.over
 ·obtain ⟨o,ho,he,hnew⟩:=JH e.data h;have hfil:(p.over.filter fun x=>decide (x.id=e.id∧x.data≠[]))=if o.data=[] then [] else [o]:=by
   have e1:(p.over.filter fun x=>decide (x.id=e.id∧x.data≠[]))=(p.over.filter fun x=>decide (x.id=e.id)).filter fun x=>decide (x.data≠[]):=by
    rw[List.filter_filter];congr 1
    funext x
    by_cases a:x.id=e.id<;>by_cases c:x.data=[]<;>simp[a,c]
   rw[e1,←he,filter_map_one GA ho];by_cases a:o.data=[]<;>simp[a]
  rw[hfil];by_cases a:o.data=[]
  ·rw[if_pos a];have hed:e.data=[]:=by
    rw[hnew,a] at hd;exact List.eq_nil_of_length_eq_zero hd.symm
   rw[hnew,a,hed];rfl
  ·rw[if_neg a];simp only[List.map_cons,List.map_nil,List.foldl_cons,List.foldl_nil];unfold iW Dr.draw;simp only;rw[hpos,hnew];exact Jz (e:=⟨newId p e.id,e.data⟩) _ (by rw[←hnew];exact hd) A R
 ·have hfil:(p.over.filter fun x=>decide (x.id=e.id∧x.data≠[]))=[]:=by
   rw[List.filter_eq_nil_iff];intro y hy hh;exact h (List.mem_map.2 ⟨y,hy,(by simpa using hh:y.id=e.id∧_).1⟩)
  rw[hfil,EG _ h];rfl
theorem foldl_flat {α β γ:Type} (f:α→γ→α) (g:β→List γ):∀(l:List β) (a:α),(l.flatMap g).foldl f a=l.foldl (fun x s=>(g s).foldl f x) a
 | [],_=>rfl
 |b::l,a=>by
  rw[List.flatMap_cons,List.foldl_append,List.foldl_cons];exact foldl_flat f g l _
theorem Sy (aj:Bool) (d:Nat):∀(l:List (Nat×El)) (p:Nat),gy aj (d+p) l=(gy aj p l).map fun s=> {s with pos:=d+s.pos}
 | [],_=>rfl
 |(n,e)::l,p=>by
  have:=Sy aj d l (p+n+(enc aj e).length);rw[gy,gy,List.map_cons,←this];simp only[Nat.add_assoc]
theorem aiD {p:Pl} (hp:bR p) {aj:Bool} (h14:aj=true→∀m∈p.maps,m.to≤14) {l:List (Nat×El)} (r A:List UInt8) (hf:∀x∈l,fM aj x.2) (hd:∀x∈l,(fK p x.2.id x.2.data).length=x.2.data.length):
  ((gy aj 0 l).flatMap (gD p aj A.length)).foldl (iW p aj) (A++(lay aj l++r))=A++(lay aj (rY (iq p) l)++r):=by
 rw[foldl_flat];have h:=ET (aj:=aj) (g:=iq p) (f:=fun x s _=>(gD p aj 0 s).foldl (iW p aj) x) r l A (fun x hx=>hd x hx)
  (fun B R x hx=>aiE hp h14 (hf x hx) (hd x hx) B R 0 _ (by omega))
 rw[←h];have hz:=Je (fun (x:List UInt8) (s:Sp)=>(gD p aj 0 s).foldl (iW p aj) x) (gy aj A.length l) (l.map fun x=>iq p x.2) (A++(lay aj l++r)) (by rw[A8,List.length_map]);rw[hz];have hs:=Sy aj A.length l 0;rw[Nat.add_zero] at hs;rw[hs,List.foldl_map];congr 1
 funext x s
 congr 1
 unfold gD;simp only[Nat.zero_add]
end Go.Plain
namespace Go.Plain
theorem ajO {p:Pl} (hp:wH p) {h:Hd} (hr:h.right):z8 p h.second=(gK p h).second∧((¬(p.sm=true∨p.st=true))→(gK p h).second=h.second):=by
 obtain ⟨f1,f2,_,_,_,t0,t1⟩:=hp;obtain ⟨r1,r2,_⟩:=hr;unfold z8 gK Hd.second;simp only;constructor
 ·cases hsm:p.sm<;>cases hst:p.st<;>cases hm:p.m<;>cases hk:h.mark<;>simp[hsm,hst,hm,hk] at* <;>omega
 ·intro hn;cases hsm:p.sm<;>cases hst:p.st<;>simp[hsm,hst] at*
theorem EW (p:Pl) (aj:Bool) (A x y R:List UInt8) (s:dH) (hs:s.pos=A.length) (hz:s.size=x.length) (hd:s.dr.draw p aj x=y) (hl:x.length=y.length):iW p aj (A++(x++R)) s=A++(y++R):=by
 unfold iW;rw[hs,hz,List.drop_left,List.take_left,hd];exact yN A x y R hl
theorem ah2 {p:Pl} (hp:wH p) (hn:dO p) (hk:p.np=false) (aj:Bool) {h:Hd} (hr:h.right) (R:List UInt8):
  (j5 p).foldl (iW p aj) (h.bytes++R)=(gK p h).bytes++R:=by
 obtain ⟨n1,n2,n3,n4,n5,n6⟩:=hn;obtain ⟨s1,s2⟩:=ajO hp hr;have e1:(gK p h).first=h.first:=by unfold gK Hd.first;simp[hk]
 have hsl:h.second<256:=by
  obtain ⟨r1,r2,_⟩:=hr;unfold Hd.second;cases h.mark<;>simp<;>omega
 unfold j5;rw[List.foldl_append,List.foldl_append,List.foldl_append];unfold Hd.bytes;rw[e1];have g1:(gK p h).seq=if p.sq then p.seq.toNat else h.seq:=rfl
 have g2:(gK p h).time=if p.aY then p.time.toNat else h.time:=rfl
 have g3:(gK p h).aH=if p.ss then p.aH.toNat else h.aH:=rfl
 have g4:(gK p h).aI=h.aI:=rfl;rw[g1,g2,g3,g4];have t1:(if p.sm=true∨p.st=true then [(⟨2,1,1,.sec⟩:dH)] else []).foldl (iW p aj) (UInt8.ofNat h.first::UInt8.ofNat h.second::(aJ 2 h.seq++(aJ 4 h.time++(aJ 4 h.aH++words h.aI)))++R)=
   UInt8.ofNat h.first::UInt8.ofNat (gK p h).second::(aJ 2 h.seq++(aJ 4 h.time++(aJ 4 h.aH++words h.aI)))++R:=by
  by_cases c:p.sm=true∨p.st=true
  ·rw[if_pos c,List.foldl_cons,List.foldl_nil];have:=EW p aj [UInt8.ofNat h.first] [UInt8.ofNat h.second] [UInt8.ofNat (gK p h).second] (aJ 2 h.seq++(aJ 4 h.time++(aJ 4 h.aH++words h.aI))++R) ⟨2,1,1,.sec⟩ rfl rfl (by
    unfold Dr.draw;have:at_ [UInt8.ofNat h.second] 0=h.second:=by simp[at_];omega
    simp only[this,s1]) rfl
   simpa using this
  ·rw[if_neg c,s2 c];rfl
 rw[t1];have t2:(if p.sq=true then [(⟨3,2,2,.num p.seq.toNat 2⟩:dH)] else []).foldl (iW p aj) (UInt8.ofNat h.first::UInt8.ofNat (gK p h).second::(aJ 2 h.seq++(aJ 4 h.time++(aJ 4 h.aH++words h.aI)))++R)=
   UInt8.ofNat h.first::UInt8.ofNat (gK p h).second::(aJ 2 (if p.sq=true then p.seq.toNat else h.seq)++(aJ 4 h.time++(aJ 4 h.aH++words h.aI)))++R:=by
  by_cases c:p.sq=true
  ·rw[if_pos c,if_pos c,List.foldl_cons,List.foldl_nil];have:=EW p aj [UInt8.ofNat h.first,UInt8.ofNat (gK p h).second] (aJ 2 h.seq) (aJ 2 p.seq.toNat) (aJ 4 h.time++(aJ 4 h.aH++words h.aI)++R) ⟨3,2,2,.num p.seq.toNat 2⟩ rfl (by rw[iZ]) rfl (by rw[iZ,iZ]);simpa using this
  ·rw[if_neg c,if_neg c];rfl
 rw[t2];have l2:(aJ 2 (if p.sq=true then p.seq.toNat else h.seq)).length=2:=iZ _ _;generalize aJ 2 (if p.sq=true then p.seq.toNat else h.seq)=q2 at*;have t3:(if p.aY=true then [(⟨4,4,4,.num p.time.toNat 4⟩:dH)] else []).foldl (iW p aj) (UInt8.ofNat h.first::UInt8.ofNat (gK p h).second::(q2++(aJ 4 h.time++(aJ 4 h.aH++words h.aI)))++R)=
   UInt8.ofNat h.first::UInt8.ofNat (gK p h).second::(q2++(aJ 4 (if p.aY=true then p.time.toNat else h.time)++(aJ 4 h.aH++words h.aI)))++R:=by
  by_cases c:p.aY=true
  ·rw[if_pos c,if_pos c,List.foldl_cons,List.foldl_nil];have:=EW p aj (UInt8.ofNat h.first::UInt8.ofNat (gK p h).second::q2) (aJ 4 h.time) (aJ 4 p.time.toNat) (aJ 4 h.aH++words h.aI++R) ⟨4,4,4,.num p.time.toNat 4⟩ (by simp[l2]) (by rw[iZ]) rfl (by rw[iZ,iZ]);simpa using this
  ·rw[if_neg c,if_neg c];rfl
 rw[t3];have l3:(aJ 4 (if p.aY=true then p.time.toNat else h.time)).length=4:=iZ _ _;generalize aJ 4 (if p.aY=true then p.time.toNat else h.time)=q3 at*;by_cases c:p.ss=true
 ·rw[if_pos c,if_pos c,List.foldl_cons,List.foldl_nil];have:=EW p aj (UInt8.ofNat h.first::UInt8.ofNat (gK p h).second::(q2++q3)) (aJ 4 h.aH) (aJ 4 p.aH.toNat) (words h.aI++R) ⟨5,8,4,.num p.aH.toNat 4⟩ (by simp[l2,l3]) (by rw[iZ]) rfl (by rw[iZ,iZ]);simpa using this
 ·rw[if_neg c,if_neg c];rfl
theorem Ee {aj:Bool} {q:Nat} (h:kV aj q):decide (q=48862)=aj:=by
 unfold kV at h;cases aj with
 |true=>simpa using h
 |false=>simp only[Bool.false_eq_true,if_false] at h;simp;omega
theorem aiF {p:Pl} (hp:bR p) (hn:dO p) (hk:fA p) {k:Pk} (hr:k.right) {x:Pk} (hx:behind p k=some x) (t:List UInt8):
  wW p k (dL k t)=dL x t∧x.pad=k.pad:=by
 obtain ⟨ha,hnp⟩:=hk;obtain ⟨⟨f1,f2,f3,f4,f5⟩,f6⟩:=hr;unfold behind at hx;rw[if_pos hp] at hx;unfold wW strokes;rw[List.foldl_append];have akv:=ah2 hp.1 hn hnp (bO k) f1 (jd k++(k.pay++t));unfold dL;rw[akv];have hcs:(gK p k.hd).aI=k.hd.aI:=rfl;have hext:(gK p k.hd).ext=k.hd.ext:=rfl;by_cases hany:dP p
 ·rw[if_pos hany] at hx;cases hl:dW p k with
  |none=>rw[hl] at hx;cases hx
  |some l=>
   rw[hl] at hx;simp only at hx;split at hx
   ·obtain rfl:=Option.some.inj hx;unfold dW at hl;cases hw:gJ k with
    |none=>rw[hw] at hl;cases hl
    |some l0=>
     rw[hw] at hl;simp only at hl;split at hl
     ·rename_i hm;obtain ⟨⟨m1,m2,m3⟩,h14⟩:=hm;unfold gJ at hw;by_cases he:k.hd.ext=true
      ·rw[if_pos he] at hw;split at hw
       ·rename_i hs;obtain rfl:=Option.some.inj hw;obtain ⟨aj,el,r,hq,hb,hsp,hf,hst⟩:=AV hs;obtain ⟨d1,d2⟩:=Em (q:=k.ak) hb hsp hf;have hnar:bO k=aj:=Ee hq;have hdr:p.drops=[]:=by
         cases hd:p.drops with
         |nil=>rfl
         |cons a b=>exact absurd (Or.inl (by rw[hd];simp)) ha
        have hd:∀x∈el,(fK p x.2.id x.2.data).length=x.2.data.length:=by
         intro x hx;refine m2 x.2 ?_ (by rw[hdr];simp);rw[d1];exact List.mem_map.2 ⟨x,hx,rfl⟩
        have Gt:aj=true→∀m∈p.maps,m.to≤14:=by
         intro hh;rw[hh] at hq;rcases h14 with h|h|h
         ·exact absurd h ha
         ·exact absurd (by simpa [kV] using hq) h
         ·exact h
        have Lp:bJ p k l= {gV p k with ext:=ig p k}:=by unfold bJ;rw[if_pos hany,if_neg ha]
        have hpe:ig p k=lay aj (rY (iq p) el)++r:=by
         unfold ig;rw[hnar,hsp];conv=>lhs;rw[hb]
         exact WX hp Gt hf hd
        have hlen:(ig p k).length=k.ext.length:=by
         rw[hpe,List.length_append,Ka el hd];conv=>rhs;rw[hb]
         rw[List.length_append]
        rw[Lp];refine ⟨?_,by show (if p.np then 0 else k.pad)=k.pad;rw[hnp];rfl⟩;unfold oG;rw[if_pos he,hsp,hnar];have e1:jd {gV p k with ext:=ig p k}=aJ 2 k.ak++(aJ 2 (k.ext.length/4)++ig p k):=by
         unfold jd;show (if k.hd.ext then _ else _)=_;rw[if_pos he];show aJ 2 k.ak++(aJ 2 ((ig p k).length/4)++ig p k)=_;rw[hlen]
        have e2:jd k=aJ 2 k.ak++(aJ 2 (k.ext.length/4)++k.ext):=by unfold jd;rw[if_pos he]
        rw[e1,e2];have hA:((gK p k.hd).bytes++(aJ 2 k.ak++aJ 2 (k.ext.length/4))).length=fT k:=by
         unfold fT;simp only[List.length_append,Hd.tJ,iZ,hcs]
        have hs:=aiD hp Gt (r++(k.pay++t)) ((gK p k.hd).bytes++(aJ 2 k.ak++aJ 2 (k.ext.length/4))) hf hd;rw[hA] at hs;have g1:(gK p k.hd).bytes++(aJ 2 k.ak++(aJ 2 (k.ext.length/4)++k.ext)++(k.pay++t))=(gK p k.hd).bytes++(aJ 2 k.ak++aJ 2 (k.ext.length/4))++(lay aj el++(r++(k.pay++t))):=by
         conv=>lhs;rw[hb]
         have:(lay aj el++r).length=k.ext.length:=by rw[←hb]
         simp[this]
        rw[g1,hs,hpe];simp[gV]
       ·cases hw
      ·rw[if_neg he] at hw;obtain rfl:=Option.some.inj hw;exfalso;obtain ⟨q1,q2,q3⟩:=m1;rcases hany with h|h|h
       ·cases hd:p.maps with
        |nil=>exact h hd
        |cons a b=>have:=q1 a.fr (by rw[hd];simp);simp[aK] at this
       ·cases hd:p.over with
        |nil=>exact h hd
        |cons a b=>have:=q2 a.id (by rw[hd];simp[aK]);simp[aK] at this
       ·exact ha h
     ·cases hl
   ·cases hx
 ·rw[if_neg hany] at hx;simp only at hx;split at hx
  ·obtain rfl:=Option.some.inj hx;have Lp:bJ p k []=gV p k:=by unfold bJ;rw[if_neg hany]
   rw[Lp];refine ⟨?_,by show (if p.np then 0 else k.pad)=k.pad;rw[hnp];rfl⟩;have hm:p.maps=[]:=by
    cases hd:p.maps with
    |nil=>rfl
    |cons a b=>exact absurd (Or.inl (by rw[hd];simp)) hany
   have ho:p.over=[]:=by
    cases hd:p.over with
    |nil=>rfl
    |cons a b=>exact absurd (Or.inr (Or.inl (by rw[hd];simp))) hany
   have hnil:oG p k=[]:=by
    unfold oG;split
    ·rw[List.flatMap_eq_nil_iff];intro s _;unfold gD;rw[hm,ho];rfl
    ·rfl
   rw[hnil];rfl
  ·cases hx
end Go.Plain
namespace Go.Plain
theorem ake {b x:List UInt8} {k i:Nat} (h:k+x.length≤b.length) (hi:i<k∨k+x.length≤i):at_ (putAt b k x) i=at_ b i:=by
 unfold putAt;simp only[at_,List.getD_eq_getElem?_getD];rcases hi with hi|hi
 ·rw[List.getElem?_append_left (by simp;omega),List.getElem?_take,if_pos hi]
 ·have ht:(b.take k).length=k:=by simp;omega
  rw[List.getElem?_append_right (by omega),ht,List.getElem?_append_right (by omega),List.getElem?_drop];congr 4
  omega
def zN (p:Pl) (aj:Bool) (n:Nat) (s:dH):Prop:=(∀was,(s.dr.draw p aj was).length=s.size)∧s.pos+s.size≤n
theorem EF {p:Pl} {aj:Bool}:∀(l:List dH) (b:List UInt8),(∀s∈l,zN p aj b.length s)→(l.foldl (iW p aj) b).length=b.length∧
  ∀i,(∀s∈l,i<s.pos∨s.pos+s.size≤i)→at_ (l.foldl (iW p aj) b) i=at_ b i
 | [],b,_=>⟨rfl,fun _ _=>rfl⟩
 |s::l,b,h=>by
  obtain ⟨h1,h2⟩:=h s (by simp);have hl:(iW p aj b s).length=b.length:=qx _ _ _ (by rw[h1];exact h2);obtain ⟨i1,i2⟩:=EF l (iW p aj b s) (fun x hx=>by rw[hl];exact h x (by simp[hx]));refine ⟨by rw[List.foldl_cons,i1,hl],fun i hi=>?_⟩;rw[List.foldl_cons,i2 i (fun x hx=>hi x (by simp[hx]))];have:=hi s (by simp);exact ake (by rw[h1];exact h2) (by rw[h1];exact this)
theorem UZ (aj:Bool):∀(l:List (Nat×El)) (p:Nat),∀s∈gy aj p l,∃x∈l,s.id=x.2.id.toNat∧s.size=x.2.data.length∧p+ahead aj≤s.pos∧s.pos+s.size≤p+(lay aj l).length
 | [],_,s,h=>by cases h
 |(n,e)::l,p,s,h=>by
  have e1:(lay aj ((n,e)::l)).length=n+((enc aj e).length+(lay aj l).length):=by simp[lay]
  have e2:=tN aj e;rw[gy] at h;rcases List.mem_cons.1 h with rfl|h
  ·exact ⟨(n,e),by simp,rfl,rfl,by simp only;omega,by simp only;omega⟩
  ·obtain ⟨x,h1,h2,h3,h4,h5⟩:=UZ aj l _ s h;exact ⟨x,by simp[h1],h2,h3,by omega,by omega⟩
theorem agP {p:Pl} (hp:bR p) {e:El} (he:e∈p.over) (d:List UInt8):fK p e.id d=e.data:=by
 have GA:(p.over.map (·.id)).Nodup:=((mH _).1 (rP hp.2.2.2.2.1)).2;obtain ⟨o,ho,h1,h2⟩:=JH (p:=p) (x:=e.id) d (List.mem_map.2 ⟨e,he,rfl⟩);have f1:=filter_map_one GA he;have f2:=filter_map_one GA ho;rw[h1] at f2;rw[f1] at f2;have:e=o:=by simpa using f2
 rw[h2,this]
theorem tL {p:Pl} {k x:Pk} (hx:behind p k=some x):bR p∧∃l,(if dP p then dW p k=some l else l=[])∧x=bJ p k l∧x.right:=by
 unfold behind at hx;split at hx
 ·rename_i hp;refine ⟨hp,?_⟩;by_cases ha:dP p
  ·simp only[if_pos ha] at hx ⊢;cases hl:dW p k with
   |none=>rw[hl] at hx;cases hx
   |some l=>
    rw[hl] at hx;simp only at hx;split at hx
    ·rename_i hr;obtain rfl:=Option.some.inj hx;exact ⟨l,rfl,rfl,hr⟩
    ·cases hx
  ·simp only[if_neg ha] at hx ⊢;split at hx
   ·rename_i hr;obtain rfl:=Option.some.inj hx;exact ⟨[],rfl,rfl,hr⟩
   ·cases hx
 ·cases hx
theorem UO {p:Pl} (h:¬dP p):p.maps=[]∧p.over=[]∧p.drops=[]∧p.adds=[]:=by
 unfold dP dJ at h;simp only[not_or,Decidable.not_not] at h;exact ⟨h.1,h.2.1,h.2.2⟩
theorem Ug {p:Pl} {k:Pk} {l:List El} (h:dW p k=some l):∃w,gJ k=some w∧iB p w∧(dJ p∨k.ak≠48862∨∀m∈p.maps,m.to≤14)∧l=gY p w:=by
 unfold dW at h;cases hw:gJ k with
 |none=>rw[hw] at h;cases h
 |some w=>
  rw[hw] at h;simp only at h;split at h
  ·rename_i hm;exact ⟨w,rfl,hm.1,hm.2,(Option.some.inj h).symm⟩
  ·cases h
theorem Tw {p:Pl} {k x:Pk} (hk:fA p) (hx:behind p k=some x) (n:Nat) (hn:12+4*k.hd.aI.length+(if k.hd.ext then 4+k.ext.length else 0)≤n):∀s∈strokes p k,zN p (bO k) n s:=by
 obtain ⟨hp,l,hl,_,_⟩:=tL hx;intro s hs;unfold strokes at hs;rcases List.mem_append.1 hs with hs|hs
 ·unfold j5 at hs;simp only[List.mem_append] at hs;rcases hs with hs|hs|hs|hs;all_goals
   split at hs
   ·obtain rfl:=List.mem_singleton.1 hs;refine ⟨fun was=>by simp[Dr.draw],by simp only;omega⟩
   ·cases hs
 ·unfold oG at hs;split at hs
  ·rename_i he;rw[if_pos he] at hn;obtain ⟨sp,hsp,hs⟩:=List.mem_flatMap.1 hs;by_cases hany:dP p
   ·rw[if_pos hany] at hl;obtain ⟨w,hw,⟨m1,m2,m3⟩,h14,_⟩:=Ug hl;unfold gJ at hw;rw[if_pos he] at hw;split at hw
    ·rename_i hz;obtain rfl:=Option.some.inj hw;obtain ⟨aj,el,r,hq,hb,hsl,hf,hst⟩:=AV hz;obtain ⟨d1,d2⟩:=Em (q:=k.ak) hb hsl hf;have hnar:bO k=aj:=Ee hq;have hdr:p.drops=[]:=by
      cases hd:p.drops with
      |nil=>rfl
      |cons a b=>exact absurd (Or.inl (by rw[hd];simp)) hk.1
     rw[hsl] at hsp;obtain ⟨y,hy,s1,s2,s3,s4⟩:=UZ aj el 0 sp hsp;have hlen:(lay aj el).length≤k.ext.length:=by rw[hb];simp
     have hid:1≤y.2.id:=by
      have:=hf y hy;cases aj with
      |true=>have:=tO this;omega
      |false=>have:=Iq this;omega
     unfold gD at hs;rw[hnar] at hs ⊢;rcases List.mem_append.1 hs with hs|hs
     ·obtain ⟨m,_,rfl⟩:=List.mem_map.1 hs;refine ⟨fun was=>by simp[Dr.draw],?_⟩;simp only;unfold fT;have:1≤ahead aj:=by unfold ahead;split<;>omega
      omega
     ·obtain ⟨e,he2,rfl⟩:=List.mem_map.1 hs;rw[List.mem_filter] at he2;obtain ⟨he3,LY⟩:=he2;have LY:e.id=(sp.id:Int)∧e.data≠[]:=by simpa using LY
      have Lu:e.id=y.2.id:=by rw[LY.1,s1];omega
      have CP:e.data.length=sp.size:=by
       have:=m2 y.2 (by rw[d1];exact List.mem_map.2 ⟨y,hy,rfl⟩) (by rw[hdr];simp);rw[←Lu,agP hp he3] at this;rw[this,s2]
      refine ⟨fun was=>by simp[Dr.draw,CP],?_⟩;simp only;unfold fT;omega
    ·cases hw
   ·obtain ⟨q1,q2,_⟩:=UO hany;unfold gD at hs;rw[q1,q2] at hs;simp at hs
  ·cases hs
end Go.Plain
namespace Go.Plain
theorem yU {p:Pl} {k:Pk} {l:List El} (hp:bR p) (hl:if dP p then dW p k=some l else l=[]) (hr:(bJ p k l).right):behind p k=some (bJ p k l):=by
 unfold behind;rw[if_pos hp];by_cases ha:dP p
 ·rw[if_pos ha] at hl ⊢;rw[hl];simp only;rw[if_pos hr]
 ·rw[if_neg ha] at hl ⊢;subst hl;simp only;rw[if_pos hr]
theorem Qy {p q:Pl} {k k':Pk} (h1:p.maps=q.maps) (h2:p.over=q.over) (h3:p.drops=q.drops) (h4:p.adds=q.adds) (k1:k.hd.ext=k'.hd.ext) (k2:k.ak=k'.ak) (k3:k.ext=k'.ext):
  dW p k=dW q k'∧ig p k=ig q k'∧(dP p↔dP q)∧(dJ p↔dJ q):=by
 obtain ⟨sm,m,st,ty,sq,seq,aY,time,ss,aH,maps,over,drops,adds,np⟩:=p;simp only at h1 h2 h3 h4;subst h1 h2 h3 h4;refine ⟨?_,?_,Iff.rfl,Iff.rfl⟩
 ·unfold dW gJ;rw[k1,k2,k3];rfl
 ·unfold ig bO;rw[k2,k3];rfl
def nP (p:Pl):Pl:= {Pl.zero with sq:=p.sq,seq:=p.seq,aY:=p.aY,time:=p.time}
def jy (p:Pl) (els:List El):Pl:= {Pl.zero with ss:=p.ss,aH:=p.aH,over:=els}
def jr (p:Pl) (els:List El):Pl:= {Pl.zero with sq:=p.sq,seq:=p.seq,aY:=p.aY,time:=p.time,ss:=p.ss,aH:=p.aH,over:=els}
theorem Ub {a b:Pk} (h1:a.hd.typ=b.hd.typ) (h2:a.hd.aI=b.hd.aI) (h3:a.hd.ext=b.hd.ext) (h4:a.hd.pad=b.hd.pad) (h5:a.ak=b.ak) (h6:a.ext=b.ext) (h7:a.pay=b.pay) (h8:a.pad=b.pad):a.right→b.right:=by
 rintro ⟨⟨⟨r1,r2,r3⟩,f2,f3,f4,f5⟩,f6⟩;unfold Pk.sum at f6;rw[h2,h7,h8,h3,h6] at f6;rw[h1] at r1 r2;rw[h2] at r3;rw[h6] at f2 f3 f4;rw[h3,h5] at f4;rw[h4,h8] at f5;exact ⟨⟨⟨r1,r2,r3⟩,f2,f3,f4,f5⟩,f6⟩
theorem order {p:Pl} {els:List El} {k x y:Pk} (hx:behind (nP p) k=some x) (hy:behind (jy p els) k=some y):
  ∃z,behind (jy p els) x=some z∧behind (nP p) y=some z∧behind (jr p els) k=some z∧fA (nP p)∧fA (jy p els)∧fA (jr p els):=by
 obtain ⟨p1,l1,e1,rfl,r1⟩:=tL hx;obtain ⟨p2,l2,e2,rfl,r2⟩:=tL hy;have n1:¬dP (nP p):=by unfold dP dJ nP;simp[Pl.zero]
 rw[if_neg n1] at e1;subst e1;have a2:¬dJ (jy p els):=by unfold dJ jy;simp[Pl.zero]
 have a3:¬dJ (jr p els):=by unfold dJ jr;simp[Pl.zero]
 have o1:∀k,bJ (nP p) k []=gV (nP p) k:=fun k=>by unfold bJ;rw[if_neg n1]
 have k1:fA (nP p):=⟨fun h=>n1 (.inr (.inr h)),rfl⟩;have k2:fA (jy p els):=⟨a2,rfl⟩;have k3:fA (jr p els):=⟨a3,rfl⟩;have p3:bR (jr p els):=by
  obtain ⟨⟨_,_,b1,b2,_,_,_⟩,_⟩:=p1;obtain ⟨⟨_,_,_,_,c1,_,_⟩,c2,c3,c4,c5,c6,c7,c8⟩:=p2;exact ⟨⟨.inr rfl,.inr rfl,b1,b2,c1,Int.le_refl _,(by decide:(0:Int)≤127)⟩,c2,c3,c4,c5,c6,c7,c8⟩
 rw[o1] at r1 hx ⊢;have cx:=Qy (p:=jy p els) (q:=jy p els) (k:=gV (nP p) k) (k':=k) rfl rfl rfl rfl rfl rfl rfl;have cb:=Qy (p:=jr p els) (q:=jy p els) (k:=k) (k':=k) rfl rfl rfl rfl rfl rfl rfl;by_cases ha:dP (jy p els)
 ·rw[if_pos ha] at e2;have o2:∀k,bJ (jy p els) k l2= {gV (jy p els) k with ext:=ig (jy p els) k}:=fun k=>by unfold bJ;rw[if_pos ha,if_neg a2]
  have o3:bJ (jr p els) k l2= {gV (jr p els) k with ext:=ig (jr p els) k}:=by unfold bJ;rw[if_pos (cb.2.2.1.2 ha),if_neg a3]
  have ez:bJ (jr p els) k l2=bJ (jy p els) (gV (nP p) k) l2:=by rw[o3,o2,cb.2.1,cx.2.1];rfl
  have ey:gV (nP p) (bJ (jy p els) k l2)=bJ (jr p els) k l2:=by rw[o3,o2,cb.2.1];rfl
  have rz:(bJ (jr p els) k l2).right:=by
   refine Ub (a:=bJ (jy p els) k l2) ?_ ?_ ?_ ?_ ?_ ?_ ?_ ?_ r2<;>(rw[o3,o2];first|rfl|exact cb.2.1.symm)
  refine ⟨bJ (jr p els) k l2,?_,?_,yU p3 (by rw[if_pos (cb.2.2.1.2 ha),cb.1,e2]) rz,k1,k2,k3⟩
  ·rw[ez];exact yU p2 (by rw[if_pos ha,cx.1,e2]) (by rw[←ez];exact rz)
  ·rw[←ey,←o1];exact yU p1 (by rw[if_neg n1]) (by rw[o1,ey];exact rz)
 ·rw[if_neg ha] at e2;subst e2;have hb:¬dP (jr p els):=fun h=>ha (cb.2.2.1.1 h);have o2:∀k,bJ (jy p els) k []=gV (jy p els) k:=fun k=>by unfold bJ;rw[if_neg ha]
  have o3:bJ (jr p els) k []=gV (jr p els) k:=by unfold bJ;rw[if_neg hb]
  have ez:bJ (jr p els) k []=bJ (jy p els) (gV (nP p) k) []:=by rw[o3,o2];rfl
  have ey:gV (nP p) (bJ (jy p els) k [])=bJ (jr p els) k []:=by rw[o3,o2];rfl
  have rz:(bJ (jr p els) k []).right:=by
   refine Ub (a:=bJ (jy p els) k []) ?_ ?_ ?_ ?_ ?_ ?_ ?_ ?_ r2<;>(rw[o3,o2];rfl)
  refine ⟨bJ (jr p els) k [],?_,?_,yU p3 (by rw[if_neg hb]) rz,k1,k2,k3⟩
  ·rw[ez];exact yU p2 (by rw[if_neg ha]) (by rw[←ez];exact rz)
  ·rw[←ey,←o1];exact yU p1 (by rw[if_neg n1]) (by rw[o1,ey];exact rz)
end Go.Plain
namespace Go.Plain
def zA (aj:Bool) (id:Int) (n:Nat):UInt8:=if aj then UInt8.ofNat (16*id.toNat+n-1) else UInt8.ofNat id.toNat
def pE (aj:Bool) (x:List UInt8) (s:Sp) (e:El):List UInt8:=putAt (putAt x (s.pos-ahead aj) [zA aj e.id s.size]) s.pos e.data
theorem ajQ {aj:Bool} {e e':El} (hd:e'.data.length=e.data.length) (A R:List UInt8):
  pE aj (A++(enc aj e++R)) ⟨e.id.toNat,A.length+ahead aj,e.data.length⟩ e'=A++(enc aj e'++R):=by
 unfold pE;simp only;have hsub:A.length+ahead aj-ahead aj=A.length:=by omega
 rw[hsub];have h1:putAt (A++(enc aj e++R)) A.length [zA aj e'.id e.data.length]=A++(enc aj ⟨e'.id,e.data⟩++R):=by
  rw[yT,yT];unfold xL zA;cases aj with
  |true=>
   simp only[if_true,List.cons_append,List.nil_append];have:=yN A [UInt8.ofNat (16*e.id.toNat+e.data.length-1)] [UInt8.ofNat (16*e'.id.toNat+e.data.length-1)] (e.data++R) rfl;simpa using this
  |false=>
   simp only[Bool.false_eq_true,if_false,List.cons_append,List.nil_append];have:=yN A [UInt8.ofNat e.id.toNat] [UInt8.ofNat e'.id.toNat] (UInt8.ofNat e.data.length::(e.data++R)) rfl;simpa using this
 rw[h1];exact Jz (e:=⟨e'.id,e.data⟩) e'.data hd A R
theorem ajo {aj:Bool} {g:El→El} {l:List (Nat×El)} {r:List UInt8} (hd:∀x∈l,(g x.2).data.length=x.2.data.length):
  ((gy aj 0 l).zip (l.map fun x=>g x.2)).foldl (fun x z=>pE aj x z.1 z.2) (lay aj l++r)=lay aj (rY g l)++r:=by
 have:=ET (aj:=aj) (g:=g) (f:=pE aj) r l [] hd (fun A R x hx=>ajQ (hd x hx) A R);simpa using this
theorem I8 {p:Pl} (h:¬dJ p) (l:List El):gY p l=l.map (iq p):=by
 unfold dJ at h;simp only[not_or,Decidable.not_not] at h;unfold gY;rw[h.1,h.2,List.append_nil,List.filter_eq_self.2 (fun e _=>by simp)]
theorem ahJ {p:Pl} {k:Pk} (hp:bR p) (ha:¬dJ p) {w:List El} (hs:(spots k.ak k.ext).2=0) (hw:w=iC k.ak k.ext) (hm:iB p w) (h14:k.ak≠48862∨∀m∈p.maps,m.to≤14):
  ((spots k.ak k.ext).1.zip (gY p w)).foldl (fun x z=>pE (bO k) x z.1 z.2) k.ext=ig p k∧(ig p k).length=k.ext.length∧(gY p w).length=(spots k.ak k.ext).1.length∧
  ∀i (h:i<(spots k.ak k.ext).1.length),((gY p w).getD i El.zero).data.length=((spots k.ak k.ext).1.getD i Sp.zero).size:=by
 obtain ⟨m1,m2,m3⟩:=hm;obtain ⟨aj,el,r,hq,hb,hsp,hf,hst⟩:=AV hs;obtain ⟨d1,d2⟩:=Em (q:=k.ak) hb hsp hf;have hnar:bO k=aj:=Ee hq;have hdr:p.drops=[]:=by
  cases hd:p.drops with
  |nil=>rfl
  |cons a b=>exact absurd (Or.inl (by rw[hd];simp)) ha
 subst hw;have hd:∀x∈el,(iq p x.2).data.length=x.2.data.length:=by
  intro x hx;refine m2 x.2 ?_ (by rw[hdr];simp);rw[d1];exact List.mem_map.2 ⟨x,hx,rfl⟩
 have Gt:aj=true→∀m∈p.maps,m.to≤14:=by
  intro hh;rw[hh] at hq;rcases h14 with h|h
  ·exact absurd (by simpa [kV] using hq) h
  ·exact h
 have ho:gY p (iC k.ak k.ext)=el.map fun x=>iq p x.2:=by
  rw[I8 ha,d1,List.map_map];rfl
 have hpe:ig p k=lay aj (rY (iq p) el)++r:=by
  unfold ig;rw[hnar,hsp];conv=>lhs;rw[hb]
  exact WX hp Gt hf hd
 have hlen:(ig p k).length=k.ext.length:=by
  rw[hpe,List.length_append,Ka el hd];conv=>rhs;rw[hb]
  rw[List.length_append]
 refine ⟨?_,hlen,?_,?_⟩
 ·rw[ho,hsp,hnar,hpe];conv=>lhs;rw[hb]
  exact ajo hd
 ·rw[ho,hsp,A8,List.length_map]
 ·intro i hi;rw[hsp,A8] at hi;have key:∀(l:List (Nat×El)) (p0 i:Nat),i<l.length→((gy aj p0 l).getD i Sp.zero).size=((l.map (·.2)).getD i El.zero).data.length:=by
   intro l;induction l with
   |nil=>intro _ _ h;simp at h
   |cons x l ih=>
    intro p0 i h;obtain ⟨n,e⟩:=x;cases i with
    |zero=>rfl
    |succ i=>
     rw[gy,List.map_cons,List.getD_cons_succ,List.getD_cons_succ];exact ih _ i (by simpa using h)
  rw[hsp,key el 0 i hi,ho];have e1:(el.map fun x=>iq p x.2).getD i El.zero=iq p (el[i]'hi).2:=by simp[List.getD,hi]
  have e2:(el.map (·.2)).getD i El.zero=(el[i]'hi).2:=by simp[List.getD,hi]
  rw[e1,e2];exact hd _ (List.getElem_mem hi)
end Go.Plain
