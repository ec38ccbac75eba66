/-
  My own general texts, one behind the other: a generator of conditions over the model, with its proof, and plain lemmas. No condition on the program.
-/
import Derived.Test.YtaehhpempnelhaaGreatDoorQBase2
import Derived.ProofKit
import Derived.OpenShut
import Derived.ShutString
import Derived.ChangeOld
import Derived.Below

namespace Go.Vc
section
variable {P:Program} {cfg:Cfg} {ev:Ev} {pc:Pres} {nv:Nat} {o:Oper}
theorem runCmds_app (c d:List Cmd) (bs:List Blk):runCmds (c++d) bs=runCmds d (runCmds c bs):=by simp[runCmds]
theorem opw_cmds (bs:List Blk):opw P cfg o ev bs=(opwC P cfg o ev bs).map fun y=>(y.1,runCmds y.2.1 bs,y.2.2):=by
 have h1:∀r es e i fo s fld x,storeRowX bs r es e i fo s fld x=(storeRowC bs r es e i fo s fld x).map fun cs=>runCmds cs bs:=by
  intro r es e i fo s fld x
  unfold storeRowX storeRowC
  cases hx:datOf (rbOf bs) [] x with
  |none=>rfl
  |some y=>
   obtain ⟨s',ex,f⟩:=y
   simp only
   by_cases hc:(decide (s=s')&& !f.contains r)=true
   ·simp only[hc,if_true]
    cases fld with
    |none=>
     simp only
     by_cases he:s=es
     ·rw[if_pos he,if_pos he,Option.map_some,runCmds_app,frzAll_eq];rfl
     ·rw[if_neg he,if_neg he];rfl
    |some j=>
     simp only
     by_cases he:es.fld j=some (s,fo)
     ·rw[if_pos he,if_pos he,Option.map_some,runCmds_app,frzAll_eq];rfl
     ·rw[if_neg he,if_neg he];rfl
   ·rw[if_neg hc,if_neg hc];rfl
 have h2:∀r cs fo s x,storeBoxX bs r cs fo s x=(storeBoxC bs r cs fo s x).map fun cs=>runCmds cs bs:=by
  intro r cs fo s x
  unfold storeBoxX storeBoxC
  cases x with
  |dat s' ex=>simp only;split<;>rfl
  |full r' n=>
   simp only
   cases rowOf (rbOf bs) [] r' with
   |none=>rfl
   |some y=>simp only;split<;>rfl
  |_=>rfl
 have h3:∀t a x,storeX P bs t a x=(storeC P bs t a x).map fun cs=>runCmds cs bs:=by
  intro t a x
  unfold storeX storeC
  cases a with
  |none=>rfl
  |some sa=>
   cases x with
   |none=>cases sa<;>rfl
   |some x=>
    cases sa with
    |ref r i fo s fld=>
     simp only
     by_cases hf:fitsT P t s=true
     ·rw[if_pos hf,if_pos hf]
      cases hb:bs[r]? with
      |none=>rfl
      |some k=>
       obtain ⟨lb,fz,p⟩:=k
       cases lb with
       |row es e=>cases fz<;>cases p<;>first|rfl|exact h1 ..
       |box cs=>cases fz<;>cases p<;>first|rfl|exact h2 ..
       |_=>rfl
     ·rw[if_neg hf,if_neg hf];rfl
    |_=>rfl
 have h4:∀k ts d a b,appendX P k bs ts d a b=(appendC P k bs ts d a b).map fun y=>(y.1,runCmds y.2.1 bs,y.2.2):=by
  intro k ts d a b
  unfold appendX appendC
  cases elemT P (ts.getD 0 0) with
  |none=>rfl
  |some et=>
   cases a with
   |none=>rfl
   |some sa=>
    cases b with
    |none=>rfl
    |some sb=>
     simp only
     cases srcA P bs et (ts.getD 1 0) sb with
     |none=>rfl
     |some y=>
      obtain ⟨s,m,f⟩:=y
      simp only
      by_cases hc:(decide (ts.size=2)&&(zeroE P et s).isSome&&fitsT P et s&&s.size !=0&&P.bytesOf et !=0)=true
      ·rw[if_pos hc,if_pos hc]
       cases sa with
       |full r n=>
        simp only
        cases ownRow bs r with
        |none=>rfl
        |some z=>
         simp only
         cases k with
         |true=>simp only[if_true];split<;>rfl
         |false=>simp only[Bool.false_eq_true,if_false];split<;>rfl
       |dat s' e=>
        cases s' with
        |sl s''=>cases e with
         |nilS=>simp only;split<;>rfl
         |_=>rfl
        |_=>rfl
       |_=>rfl
      ·rw[if_neg hc,if_neg hc];rfl
 have h5:∀ts a b,copyX P bs ts a b=(copyC P bs ts a b).map fun y=>(y.1,runCmds y.2 bs):=by
  intro ts a b
  unfold copyX copyC
  cases elemT P (ts.getD 0 0) with
  |none=>rfl
  |some et=>
   cases a with
   |none=>rfl
   |some sa=>
    cases b with
    |none=>rfl
    |some sb=>
     simp only
     cases srcX P bs (ts.getD 1 0) sb with
     |none=>rfl
     |some y=>
      cases dstX sa with
      |none=>rfl
      |some z=>
       simp only
       cases ownRow bs z.1 with
       |none=>rfl
       |some u=>simp only;split<;>rfl
 unfold opw opwC
 generalize o.op=op
 cases op<;>(try rfl)
 case store t a x=>
  simp only[h3]
  cases storeC P bs t (ev [] a 0) (ev [] x t)<;>rfl
 case call c=>
  obtain ⟨callee,args,ts⟩:=c
  cases callee with
  |builtin b=>
   cases b<;>(try rfl)
   case append=>
    simp only
    obtain ⟨al⟩:=args
    cases o.dst with
    |none=>match al with
     | []=>rfl
     | [_]=>rfl
     | [_,_]=>rfl
     |_::_::_::_=>rfl
    |some d=>match al with
     | []=>rfl
     | [_]=>rfl
     | [a,b]=>exact h4 ..
     |_::_::_::_=>rfl
   case copy=>
    simp only
    obtain ⟨al⟩:=args
    match al with
    | []=>rfl
    | [_]=>rfl
    | [a,b]=>
     simp only[h5]
     cases copyC P bs ts (ev [] a (ts.getD 0 0)) (ev [] b (ts.getD 1 0))<;>rfl
    |_::_::_::_=>rfl
  |value f=>rfl
  |invoke r m=>rfl
 case convert src dst x=>
  simp only
  by_cases hsd:src=dst
  ·rw[if_pos hsd,if_pos hsd]
   cases markX P bs src (ev [] x src) with
   |none=>rfl
   |some y=>rfl
  ·rw[if_neg hsd,if_neg hsd]
   rfl
 case mapUpdate t m k x=>
  simp only
  cases mputX P bs t (ev [] m t) (intOf? (ev [] k 0)) (ev [] x 0) with
  |none=>rfl
  |some y=>rfl
 case next it b=>
  cases b with
  |false=>rfl
  |true=>
   simp only
   cases nextX bs (ev [] it 0) with
   |none=>rfl
   |some y=>rfl
/-! What is known of the blocks that are looked at is enough. -/
/-- bs0 says no more than bs. -/
def BsSub (bs0 bs:List Blk):Prop:=∀(r:Nat) (k:Blk),bs0[r]?=some k→k.lb≠ .none→bs[r]?=some k
theorem BsSub.rb {bs0 bs:List Blk} (h:BsSub bs0 bs):RbLe (rbOf bs0) (rbOf bs):=by
 intro r b hb hn
 unfold rbOf at hb ⊢
 cases hk:bs0[r]? with
 |none=>simp[hk] at hb
 |some k=>
  simp[hk] at hb
  subst hb
  rw[h r k hk hn]
theorem ownRow_sub {bs0 bs:List Blk} (h:BsSub bs0 bs) {r:Nat} {y:Sh×E} (hr:ownRow bs0 r=some y):ownRow bs r=some y:=by
 obtain ⟨s,e⟩:=y
 have:=h r _ (ownRow_blk hr) (by simp)
 simp[ownRow,this]
theorem srcX_sub {bs0 bs : List Blk} (h : BsSub bs0 bs) {t : TypeId} {x : SX} {y : Sh × E × List Nat} (hs : srcX P bs0 t x = some y) : srcX P bs t x = some y := by
  unfold srcX at hs ⊢
  cases hu : P.underlying t with
  | none => rw [hu] at hs; cases x with
    | dat s e => cases s <;> simp at hs
    | _ => simp at hs
  | some d =>
    rw [hu] at hs
    cases d with
    | slice et => cases x with
      | dat s e =>
        cases s <;>
          (simp only at hs ⊢
           split at hs
           · rename_i hd; rw [datOf_le h.rb hd]; exact hs
           · simp at hs)
      | _ =>
        simp only at hs ⊢
        split at hs
        · rename_i hd; rw [datOf_le h.rb hd]; exact hs
        · simp at hs
    | string => cases x with
      | dat s e => cases s <;> first | exact hs | (simp at hs)
      | _ => simp at hs
    | _ => cases x with
      | dat s e => cases s <;> simp at hs
      | _ => simp at hs
theorem storeC_sub {bs0 bs:List Blk} (h:BsSub bs0 bs) {t:TypeId} {a x:Option SX} {cs:List Cmd} (hs:storeC P bs0 t a x=some cs):storeC P bs t a x=some cs:=by
 unfold storeC at hs ⊢
 split at hs
 ·split at hs
  ·rename_i hf
   simp only[hf,if_true]
   split at hs
   ·rename_i hb
    rw[h _ _ hb (by simp)]
    simp only
    unfold storeRowC at hs ⊢
    split at hs
    ·rename_i hd
     rw[datOf_le h.rb hd]
     exact hs
    ·simp at hs
   ·rename_i hb
    rw[h _ _ hb (by simp)]
    simp only
    unfold storeBoxC at hs ⊢
    split at hs
    ·exact hs
    ·split at hs
     ·rename_i hr
      rw[rowOf_le h.rb hr]
      exact hs
     ·simp at hs
    ·simp at hs
   ·simp at hs
  ·simp at hs
 ·simp at hs
theorem srcA_cases (P:Program) (et t:TypeId) (x:SX):(∃z,∀bs,srcA P bs et t x=z)∨∀bs,srcA P bs et t x=srcX P bs t x:=by
 cases hu:P.underlying t with
 |none=>
  right
  intro bs
  unfold srcA
  rw[hu]
  cases x with
  |dat s e=>cases s<;>rfl
  |_=>rfl
 |some d=>
  cases x with
  |dat s e=>cases s with
   |int k=>cases d with
    |int q=>left;exact ⟨_,fun bs=>by unfold srcA;rw[hu]⟩
    |_=>right;intro bs;unfold srcA;rw[hu]
   |_=>right;intro bs;unfold srcA;rw[hu]
  |_=>right;intro bs;unfold srcA;rw[hu]
theorem srcA_sub {bs0 bs:List Blk} (h:BsSub bs0 bs) {et t:TypeId} {x:SX} {y:Sh×E×List Nat} (hs:srcA P bs0 et t x=some y):srcA P bs et t x=some y:=by
 rcases srcA_cases P et t x with ⟨z,hz⟩|hz
 ·rw[hz] at hs ⊢
  exact hs
 ·rw[hz] at hs ⊢
  exact srcX_sub h hs
theorem appendC_sub {bs0 bs:List Blk} (h:BsSub bs0 bs) {k:Bool} {ts:Array TypeId} {d:Nat} (hd:bs0[d]?=bs[d]?) {a b:Option SX} {y:SX×List Cmd×List Ob} (hs:appendC P k bs0 ts d a b=some y):appendC P k bs ts d a b=some y:=by
 have hfree:isFree bs0 d=isFree bs d:=by unfold isFree;rw[hd]
 unfold appendC at hs ⊢
 split at hs
 ·split at hs
  ·simp at hs
  ·rename_i hsrc
   rw[srcA_sub h hsrc]
   simp only
   split at hs
   ·rename_i hc
    rw[if_pos hc]
    split at hs
    ·rw[hfree] at hs;exact hs
    ·split at hs
     ·rename_i hr
      rw[ownRow_sub h hr]
      simp only
      rw[hfree] at hs;exact hs
     ·simp at hs
    ·simp at hs
   ·simp at hs
 ·simp at hs
theorem copyC_sub {bs0 bs:List Blk} (h:BsSub bs0 bs) {ts:Array TypeId} {a b:Option SX} {y:SX×List Cmd} (hs:copyC P bs0 ts a b=some y):copyC P bs ts a b=some y:=by
 unfold copyC at hs ⊢
 split at hs
 ·split at hs
  ·rename_i hsrc hdst
   rw[srcX_sub h hsrc,hdst]
   simp only
   split at hs
   ·rename_i hr
    rw[ownRow_sub h hr]
    exact hs
   ·simp at hs
  ·simp at hs
 ·simp at hs
theorem mputX_sub {bs0 bs:List Blk} (h:BsSub bs0 bs) {t:TypeId} {m x:Option SX} {k:Option (IntKind×E)} {y:Nat×Blk} (hs:mputX P bs0 t m k x=some y):mputX P bs t m k x=some y:=by
 unfold mputX at hs ⊢
 split at hs
 ·split at hs
  ·rename_i hb
   rw[h _ _ hb (by simp)]
   exact hs
  ·simp at hs
 ·simp at hs
theorem nextX_sub {bs0 bs:List Blk} (h:BsSub bs0 bs) {it:Option SX} {y:SX×Nat×Blk} (hs:nextX bs0 it=some y):nextX bs it=some y:=by
 unfold nextX at hs ⊢
 split at hs
 ·split at hs
  ·rename_i hb
   rw[h _ _ hb (by simp)]
   exact hs
  ·simp at hs
 ·simp at hs
theorem ownRow_sub' {bs0 bs:List Blk} (h:BsSub bs0 bs) {r:Nat} {y:Sh×E} (hs:ownRow bs0 r=some y):ownRow bs r=some y:=by
 obtain ⟨s,e⟩:=y
 have h1:=ownRow_blk hs
 have h2:=h _ _ h1 (by simp)
 unfold ownRow
 rw[h2]
theorem markX_sub {bs0 bs:List Blk} (h:BsSub bs0 bs) {t:TypeId} {x:Option SX} {y:Sh×E×Nat} (hs:markX P bs0 t x=some y):markX P bs t x=some y:=by
 unfold markX at hs ⊢
 split at hs
 ·split at hs
  ·rename_i hu hb
   rw[hu,ownRow_sub' h hb]
   exact hs
  ·simp at hs
 ·simp at hs
theorem opwC_sub {bs0 bs:List Blk} (h:BsSub bs0 bs) (hd:∀d,o.dst=some d→bs0[d]?=bs[d]?) {y:SX×List Cmd×List Ob} (hs:opwC P cfg o ev bs0=some y):opwC P cfg o ev bs=some y:=by
 unfold opwC at hs ⊢
 split at hs
 ·split at hs
  ·rename_i hst
   rw[storeC_sub h hst]
   exact hs
  ·simp at hs
 ·split at hs
  ·rename_i hdst
   exact appendC_sub h (hd _ hdst) hs
  ·simp at hs
 ·split at hs
  ·split at hs
   ·rename_i hc
    rw[copyC_sub h hc]
    exact hs
   ·simp at hs
  ·simp at hs
 ·split at hs
  ·rename_i hsd
   rw[if_pos hsd]
   split at hs
   ·rename_i hb
    rw[markX_sub h hb]
    exact hs
   ·simp at hs
  ·simp at hs
 ·split at hs
  ·rename_i hb
   rw[mputX_sub h hb]
   exact hs
  ·simp at hs
 ·split at hs
  ·rename_i hb
   rw[nextX_sub h hb]
   exact hs
  ·simp at hs
 ·simp at hs
theorem cutTo_get (F:List Nat) (bs:List Blk) (r:Nat):(cutTo F bs)[r]?=(bs[r]?).map fun b=>if F.contains r then b else noBlk:=by
 simp[cutTo,List.getElem?_mapIdx]
theorem cutTo_sub (F:List Nat) (bs:List Blk):BsSub (cutTo F bs) bs:=by
 intro r k hk hn
 rw[cutTo_get] at hk
 cases hb:bs[r]? with
 |none=>simp[hb] at hk
 |some b=>
  simp only[hb,Option.map_some,Option.some.injEq] at hk
  split at hk
  ·rw[hk]
  ·subst hk;exact absurd rfl hn
theorem coreC_local {F:List Nat} {bs:List Blk} (hd:∀d,o.dst=some d→F.contains d=true) {y:SX×List Cmd×Nat×List Ob} (h:coreC P cfg o pc ev (cutTo F bs) nv=some y):coreC P cfg o pc ev bs nv=some y:=by
 have hdd:∀d,o.dst=some d→(cutTo F bs)[d]?=bs[d]?:=by
  intro d e
  rw[cutTo_get,hd d e]
  cases bs[d]?<;>rfl
 unfold coreC at h ⊢
 split at h
 ·rename_i hc
  rw[if_pos hc]
  split at h
  ·rename_i hp
   rw[if_pos hp]
   cases hw:opwC P cfg o ev (cutTo F bs) with
   |none=>simp[hw] at h
   |some z=>rw[hw] at h;rw[opwC_sub (cutTo_sub F bs) hdd hw];exact h
  ·simp at h
 ·rename_i hc
  rw[if_neg hc]
  split at h
  ·simp at h
  ·rename_i hg
   rw[if_neg hg]
   cases hx:opx P cfg o pc ev (rbOf (cutTo F bs)) nv with
   |none=>simp[hx] at h
   |some out=>
    rw[hx] at h
    rw[opx_le (cutTo_sub F bs).rb (fun d e hn=>by unfold isNew rbOf at hn ⊢;rw[hdd d e] at hn;exact hn) hx]
    exact h
/-- The step by commands is the step. -/
theorem core_of_C {bs:List Blk} {x:SX} {cs:List Cmd} {n:Nat} {ob:List Ob} (h:coreC P cfg o pc ev bs nv=some (x,cs,n,ob)):core P cfg o pc ev bs nv=some (x,runCmds cs bs,n,ob):=by
 unfold coreC at h
 unfold core
 split at h
 ·rename_i hc
  rw[if_pos hc]
  split at h
  ·rename_i hp
   rw[if_pos hp]
   rw[opw_cmds]
   cases hw:opwC P cfg o ev bs with
   |none=>simp[hw] at h
   |some z=>
    obtain ⟨x',cs',ob'⟩:=z
    simp only[hw] at h
    simp only[Option.map_some]
    split at h
    ·rename_i hv
     simp at h
     obtain ⟨rfl,rfl,rfl,rfl⟩:=h
     rw[if_pos hv]
    ·simp at h
  ·simp at h
 ·rename_i hc
  rw[if_neg hc]
  split at h
  ·simp at h
  ·rename_i hg
   rw[if_neg hg]
   cases hx:opx P cfg o pc ev (rbOf bs) nv with
   |none=>simp[hx] at h
   |some out=>
    simp only[hx] at h ⊢
    split at h
    ·rename_i hv
     simp at h
     obtain ⟨rfl,rfl,rfl,rfl⟩:=h
     rw[if_pos hv]
    ·simp at h
theorem stepF_astep {φ:Oper→FP} {ops:List Oper} {S:SS} {y:SS×List Ob} (h:stepF P cfg φ ops o S=some y):astep P cfg ops o S=some y:=by
 unfold stepF at h
 split at h
 ·simp at h
 ·rename_i pc hg
  cases hc:coreC P cfg o pc (S.ev P) (cutTo (φ o).F S.blks) S.nv with
  |none=>simp[hc] at h
  |some z=>
   obtain ⟨x,cs,n,ob⟩:=z
   simp only[hc] at h
   by_cases hok:(cs.all (cmdIn (φ o))&&dstIn (φ o) o)=true
   ·rw[if_pos hok] at h
    simp only[Bool.and_eq_true] at hok
    simp only[Option.some.injEq] at h
    subst h
    refine astep_core.2 ⟨pc,x,_,n,hg,core_of_C (coreC_local (fun d e=>?_) hc),rfl⟩
    have:=hok.2
    simp only[dstIn,e] at this
    exact this
   ·rw[if_neg hok] at h
    cases h
/-! Two that do not meet change places. -/
theorem cmd_comm (c d:Cmd) (h:(match c,d with| .put r _,.put q _=>r≠q| .put r _,.frz q=>r≠q| .frz r,.put q _=>r≠q| .frz _,.frz _=>True)) (bs:List Blk):c.run (d.run bs)=d.run (c.run bs):=by
 apply List.ext_getElem?
 intro i
 cases c with
 |put r b=>cases d with
  |put q b'=>
   simp only[Cmd.run]
   simp only at h
   rw[List.set_comm _ _ (fun e=>h e.symm)]
  |frz q=>
   simp only[Cmd.run,List.getElem?_set,List.getElem?_modify,List.length_modify]
   simp only at h
   by_cases h1:r=i<;>by_cases h2:q=i<;>simp_all
 |frz r=>cases d with
  |put q b'=>
   simp only[Cmd.run,List.getElem?_set,List.getElem?_modify,List.length_modify]
   simp only at h
   by_cases h1:r=i<;>by_cases h2:q=i<;>simp_all
  |frz q=>
   simp only[Cmd.run,List.getElem?_modify]
   by_cases h1:r=i<;>by_cases h2:q=i<;>simp_all
theorem cmds_comm_one (c:Cmd):∀(ds:List Cmd) (bs:List Blk),(∀d∈ds,∀bs,c.run (d.run bs)=d.run (c.run bs))→c.run (runCmds ds bs)=runCmds ds (c.run bs)
 | [],bs,_=>rfl
 |d::ds,bs,h=>by
  show c.run (runCmds ds (d.run bs))=runCmds ds (d.run (c.run bs))
  rw[cmds_comm_one c ds (d.run bs) (fun d' hd'=>h d' (by simp[hd'])),h d (by simp) bs]
theorem cmds_comm_all:∀(cs ds:List Cmd) (bs:List Blk),(∀c∈cs,∀d∈ds,∀bs,c.run (d.run bs)=d.run (c.run bs))→runCmds cs (runCmds ds bs)=runCmds ds (runCmds cs bs)
 | [],ds,bs,_=>rfl
 |c::cs,ds,bs,h=>by
  show runCmds cs (c.run (runCmds ds bs))=runCmds ds (runCmds cs (c.run bs))
  rw[cmds_comm_one c ds bs (h c (by simp)),cmds_comm_all cs ds (c.run bs) (fun c' hc'=>h c' (by simp[hc']))]
theorem apart_ne {a b:List Nat} (h:apart a b=true) {r q:Nat} (hr:r∈a) (hq:q∈b):r≠q:=by
 intro e
 subst e
 simp only[apart,List.all_eq_true,Bool.not_eq_true'] at h
 have:=h r hr
 simp[hq] at this
/-- What lies outside the blocks that are turned stays. -/
theorem runCmds_get:∀(cs:List Cmd) (bs:List Blk) (r:Nat),(∀c∈cs,(match c with| .put q _=>q≠r| .frz q=>q≠r))→(runCmds cs bs)[r]?=bs[r]?
 | [],_,_,_=>rfl
 |c::cs,bs,r,h=>by
  show (runCmds cs (c.run bs))[r]?=_
  rw[runCmds_get cs _ r (fun c' hc'=>h c' (by simp[hc']))]
  have:=h c (by simp)
  cases c with
  |put q b=>simp only[Cmd.run];exact List.getElem?_set_ne this
  |frz q=>simp only[Cmd.run,List.getElem?_modify];simp only at this;simp[this]
theorem runCmds_rb:∀(cs:List Cmd) (bs:List Blk) (r:Nat),(∀c∈cs,(match c with| .put q _=>q≠r| .frz _=>True))→rbOf (runCmds cs bs) r=rbOf bs r
 | [],_,_,_=>rfl
 |c::cs,bs,r,h=>by
  show rbOf (runCmds cs (c.run bs)) r=_
  rw[runCmds_rb cs _ r (fun c' hc'=>h c' (by simp[hc']))]
  have:=h c (by simp)
  cases c with
  |put q b=>simp only[Cmd.run,rbOf];rw[List.getElem?_set_ne this]
  |frz q=>
   simp only[Cmd.run,rbOf,List.getElem?_modify]
   cases bs[r]? with
   |none=>rfl
   |some k=>by_cases hq:q=r<;>simp[hq]
theorem cutTo_congr {F:List Nat} {bs bs':List Blk} (h:∀r,r∈F→bs'[r]?=bs[r]?) (hl:bs'.length=bs.length):cutTo F bs'=cutTo F bs:=by
 apply List.ext_getElem?
 intro r
 rw[cutTo_get,cutTo_get]
 by_cases hr:r∈F
 ·rw[h r hr]
 ·have hc:F.contains r=false:=by simpa using hr
  simp only[hc]
  by_cases hlt:r<bs.length
  ·rw[List.getElem?_eq_getElem hlt,List.getElem?_eq_getElem (by omega)];rfl
  ·rw[List.getElem?_eq_none (by omega),List.getElem?_eq_none (by omega)]
theorem runCmds_length:∀(cs:List Cmd) (bs:List Blk),(runCmds cs bs).length=bs.length
 | [],_=>rfl
 |c::cs,bs=>by
  show (runCmds cs (c.run bs)).length=_
  rw[runCmds_length cs]
  cases c<;>simp[Cmd.run]
theorem rbOf_cut {F:List Nat} {bs bs':List Blk} (h:∀r,r∈F→rbOf bs' r=rbOf bs r) (hl:bs'.length=bs.length):rbOf (cutTo F bs')=rbOf (cutTo F bs):=by
 funext r
 unfold rbOf at h ⊢
 rw[cutTo_get,cutTo_get]
 by_cases hr:r∈F
 ·have hc:F.contains r=true:=by simpa using hr
  have:=h r hr
  simp only[hc,if_true]
  cases h1:bs'[r]?<;>cases h2:bs[r]?<;>simp[h1,h2] at this ⊢ <;>exact this
 ·have hc:F.contains r=false:=by simpa using hr
  simp only[hc]
  by_cases hlt:r<bs.length
  ·rw[List.getElem?_eq_getElem hlt,List.getElem?_eq_getElem (by omega)];rfl
  ·rw[List.getElem?_eq_none (by omega),List.getElem?_eq_none (by omega)]
theorem coreC_congr {bs:List Blk} {ev':Ev} (h:EvEq o.op.operands.toList ev ev'):coreC P cfg o pc ev bs nv=coreC P cfg o pc ev' bs nv:=by
 have hw:opwC P cfg o ev bs=opwC P cfg o ev' bs:=by
  unfold opwC
  generalize o.op=op at h
  cases op<;>simp only[Op.operands] at h<;>(try rfl)
  case store t a x=>
   simp only
   rw[h a (by simp),h x (by simp)]
  case call c=>
   obtain ⟨callee,args,ts⟩:=c
   have ha:EvEq args.toList ev ev':=fun x hx=>h x (by simp[Call.operands];exact .inr (by simpa using hx))
   cases callee with
   |builtin b=>
    cases b<;>simp only
    ·split
     ·rename_i x y d hl hd
      rw[ha x (by simp[hl]),ha y (by simp[hl])]
     ·rfl
    ·split
     ·rename_i x y hl
      rw[ha x (by simp[hl]),ha y (by simp[hl])]
     ·rfl
   |value f=>rfl
   |invoke r m=>rfl
  case convert src dst x=>
   simp only
   rw[h x (by simp)]
  case mapUpdate t m k x=>
   simp only
   rw[h m (by simp),h k (by simp),h x (by simp)]
  case next it b=>
   cases b with
   |true=>simp only;rw[h it (by simp)]
   |false=>rfl
 unfold coreC
 rw[hw,opx_congr h]
/-- After commands that do not meet the footprint, and with other variables ahead, the step is as it was. -/
theorem coreC_after {F:List Nat} {bs:List Blk} {cs:List Cmd} {nv':Nat} (hput:∀c∈cs,∀r∈F,(match c with| .put q _=>q≠r| .frz q=>cls cfg o= .W→q≠r)) (hn:nv'=nv∨cls cfg o≠ .call):
  coreC P cfg o pc ev (cutTo F (runCmds cs bs)) nv'=coreC P cfg o pc ev (cutTo F bs) nv:=by
 unfold coreC
 by_cases hw:cls cfg o= .W
 ·have e:cutTo F (runCmds cs bs)=cutTo F bs:=by
   refine cutTo_congr (fun r hr=>runCmds_get cs bs r fun c hc=>?_) (runCmds_length cs bs)
   have:=hput c hc r hr
   cases c with
   |put q b=>exact this
   |frz q=>exact this hw
  rw[if_pos hw,if_pos hw,e]
 ·have e:rbOf (cutTo F (runCmds cs bs))=rbOf (cutTo F bs):=by
   refine rbOf_cut (fun r hr=>runCmds_rb cs bs r fun c hc=>?_) (runCmds_length cs bs)
   have:=hput c hc r hr
   cases c with
   |put q b=>exact this
   |frz q=>trivial
  rw[if_neg hw,if_neg hw,e]
  have e2:opx P cfg o pc ev (rbOf (cutTo F bs)) nv'=opx P cfg o pc ev (rbOf (cutTo F bs)) nv:=by
   rcases hn with h|h
   ·rw[h]
   ·exact opx_nv h
  rw[e2]
/-! A store leaves the rows' shapes; a place asks for no more. -/
def rsh (b:RB):Option (Sh×Pres):=match b with|⟨.row s _,p⟩=>some (s,p)|_=>none
theorem rowOf_rsh {rb rb':Rb} (h:∀r,(rb r).bind rsh=(rb' r).bind rsh) (r:Nat):(rowOf rb pc r).map (·.1)=(rowOf rb' pc r).map (·.1):=by
 have h:=h r
 have key:∀rb:Rb,(rowOf rb pc r).map (·.1)=((rb r).bind rsh).bind fun y=>if presSub y.2 pc then some y.1 else none:=by
  intro rb
  unfold rowOf
  cases rb r with
  |none=>rfl
  |some k=>
   obtain ⟨lb,p⟩:=k
   cases lb with
   |row s e=>
    simp only[rsh,Option.bind_some]
    split<;>rfl
   |_=>rfl
 rw[key,key,h]
theorem iaddrX_rsh {rb rb':Rb} (h:∀r,(rb r).bind rsh=(rb' r).bind rsh) (t:TypeId) (x:Option SX) (i:Option (IntKind×E)):iaddrX P rb pc t x i=iaddrX P rb' pc t x i:=by
 unfold iaddrX
 cases elemT P t with
 |none=>rfl
 |some et=>
  cases x with
  |none=>rfl
  |some x=>
   cases i with
   |none=>cases x<;>first|rfl|(rename_i sh _;cases sh<;>rfl)
   |some i=>
    cases x with
    |dat sh e=>cases sh<;>rfl
    |full r n=>
     have h1:=rowOf_rsh (pc:=pc) h r
     simp only
     cases h2:rowOf rb pc r<;>cases h3:rowOf rb' pc r<;>simp only[h2,h3,Option.map_none,Option.map_some,reduceCtorEq,Option.some.injEq] at h1 ⊢
     rw[h1]
    |view r off n=>
     have h1:=rowOf_rsh (pc:=pc) h r
     simp only
     cases h2:rowOf rb pc r<;>cases h3:rowOf rb' pc r<;>simp only[h2,h3,Option.map_none,Option.map_some,reduceCtorEq,Option.some.injEq] at h1 ⊢
     rw[h1]
    |_=>rfl
theorem coreC_IA {bs bs':List Blk} {nv':Nat} (ho:isIA o=true) (h:∀r,(rbOf bs' r).bind rsh=(rbOf bs r).bind rsh):coreC P cfg o pc ev bs' nv'=coreC P cfg o pc ev bs nv:=by
 unfold isIA at ho
 split at ho
 ·rename_i t x i hop
  have hc:cls cfg o= .R:=by simp[cls,hop]
  unfold coreC
  simp only[hc,reduceCtorEq,if_false,opx,opx0,preX,hop,iaddrX_rsh h]
 ·cases ho
theorem store_cmds {bs:List Blk} {y:SX×List Cmd×Nat×List Ob} (ho:isSt o=true) (h:coreC P cfg o pc ev bs nv=some y):∃(f:List Nat) (r:Nat) (k k':Blk),y.2.1=f.map .frz++ [.put r k']∧bs[r]?=some k∧k.lb≠ .none∧rsh ⟨k'.lb,k'.pres⟩=rsh ⟨k.lb,k.pres⟩:=by
 unfold isSt at ho
 split at ho
 ·rename_i t a x hop
  have hc:cls cfg o= .W:=by simp[cls,hop]
  unfold coreC at h
  rw[if_pos hc] at h
  split at h
  ·have key:∀cs,storeC P bs t (ev [] a 0) (ev [] x t)=some cs→∃(f:List Nat) (r:Nat) (k k':Blk),cs=f.map .frz++ [.put r k']∧bs[r]?=some k∧k.lb≠ .none∧rsh ⟨k'.lb,k'.pres⟩=rsh ⟨k.lb,k.pres⟩:=by
    intro cs hs
    unfold storeC at hs
    split at hs
    ·split at hs
     ·split at hs
      ·rename_i hb
       unfold storeRowC at hs
       split at hs
       ·split at hs
        ·split at hs
         ·split at hs
          ·simp at hs;exact ⟨_,_,_,_,hs.symm,hb,by simp,rfl⟩
          ·simp at hs
         ·split at hs
          ·simp at hs;exact ⟨_,_,_,_,hs.symm,hb,by simp,rfl⟩
          ·simp at hs
        ·simp at hs
       ·simp at hs
      ·rename_i hb
       unfold storeBoxC at hs
       split at hs
       ·split at hs
        ·simp at hs;exact ⟨[],_,_,_,hs.symm,hb,by simp,rfl⟩
        ·simp at hs
       ·split at hs
        ·split at hs
         ·simp at hs;exact ⟨[],_,_,_,hs.symm,hb,by simp,rfl⟩
         ·simp at hs
        ·simp at hs
       ·simp at hs
      ·simp at hs
     ·simp at hs
    ·simp at hs
   simp only[opwC,hop] at h
   cases hs:storeC P bs t (ev [] a 0) (ev [] x t) with
   |none=>simp[hs] at h
   |some cs=>
    simp only[hs] at h
    split at h
    ·simp at h
     subst h
     exact key cs hs
    ·simp at h
  ·simp at h
 ·cases ho
/-- Behind a store the rows' shapes are what they were. -/
theorem store_rsh {F:List Nat} {bs:List Blk} {f:List Nat} {r:Nat} {k k':Blk} (hk:bs[r]?=some k) (hs:rsh ⟨k'.lb,k'.pres⟩=rsh ⟨k.lb,k.pres⟩):
  ∀q,(rbOf (cutTo F (runCmds (f.map .frz++ [.put r k']) bs)) q).bind rsh=(rbOf (cutTo F bs) q).bind rsh:=by
 intro q
 unfold rbOf
 rw[cutTo_get,cutTo_get,runCmds_app]
 have e1:runCmds [Cmd.put r k'] (runCmds (f.map .frz) bs)=(runCmds (f.map .frz) bs).set r k':=rfl
 rw[e1]
 have hfr:∀q,rbOf (runCmds (f.map .frz) bs) q=rbOf bs q:=fun q=>by rw[rbOf_frz]
 have hlen:(runCmds (f.map .frz) bs).length=bs.length:=runCmds_length _ _
 have hr:r<bs.length:=(List.getElem?_eq_some_iff.1 hk).1
 by_cases hq:r=q
 ·subst hq
  rw[List.getElem?_set_self (by omega),hk]
  cases F.contains r<;>simp[hs]
 ·rw[List.getElem?_set_ne hq]
  have:=hfr q
  unfold rbOf at this
  cases h1:(runCmds (f.map .frz) bs)[q]? with
  |none=>cases h2:bs[q]? with
   |none=>rfl
   |some y=>simp[h1,h2] at this
  |some x=>cases h2:bs[q]? with
   |none=>simp[h1,h2] at this
   |some y=>
    simp only[h1,h2,Option.some.injEq,RB.mk.injEq] at this
    simp only[Option.map_some]
    cases F.contains q<;>simp[this.1,this.2]
theorem stepF_iff {φ:Oper→FP} {ops:List Oper} {S S':SS} {obs:List Ob}:stepF P cfg φ ops o S=some (S',obs)↔
  ∃pc x cs n,guardPres S ops o=some pc∧coreC P cfg o pc (S.ev P) (cutTo (φ o).F S.blks) S.nv=some (x,cs,n,obs)∧cs.all (cmdIn (φ o))=true∧dstIn (φ o) o=true∧
   S'= {tmps:=putT S.tmps o.dst ⟨pc,x⟩,blks:=runCmds cs S.blks,nv:=S.nv+n}:=by
 unfold stepF
 cases hg:guardPres S ops o with
 |none=>simp
 |some pc=>
  simp only[Option.some.injEq]
  cases hc:coreC P cfg o pc (S.ev P) (cutTo (φ o).F S.blks) S.nv with
  |none=>
   simp
   intro _ _ _ h
   simp[hc] at h
  |some z=>
   obtain ⟨x,cs,n,ob⟩:=z
   simp only
   by_cases hok:(cs.all (cmdIn (φ o))&&dstIn (φ o) o)=true
   ·rw[if_pos hok]
    simp only[Bool.and_eq_true] at hok
    constructor
    ·intro h
     simp only[Option.some.injEq,Prod.mk.injEq] at h
     obtain ⟨rfl,rfl⟩:=h
     exact ⟨pc,x,cs,n,rfl,hc,hok.1,hok.2,rfl⟩
    ·rintro ⟨_,_,_,_,rfl,h,_,_,rfl⟩
     rw[hc] at h
     simp only[Option.some.injEq,Prod.mk.injEq] at h
     obtain ⟨rfl,rfl,rfl,rfl⟩:=h
     rfl
   ·rw[if_neg hok]
    constructor
    ·intro h;cases h
    ·rintro ⟨_,_,_,_,rfl,h,h1,h2,_⟩
     rw[hc] at h
     simp only[Option.some.injEq,Prod.mk.injEq] at h
     obtain ⟨rfl,rfl,rfl,rfl⟩:=h
     exact absurd (by rw[h1,h2];rfl) hok
theorem stepF_nv {φ:Oper→FP} {ops:List Oper} {S S':SS} {obs:List Ob} (h:stepF P cfg φ ops o S=some (S',obs)):S'.nv=S.nv+(obs.map Ob.vars).sum:=astep_nv (stepF_astep h)
theorem coreC_call {bs:List Blk} {x:SX} {cs:List Cmd} {n:Nat} {ob:List Ob} (h:coreC P cfg o pc ev bs nv=some (x,cs,n,ob)) (hc:cls cfg o≠ .call):n=0:=by
 unfold coreC at h
 split at h
 ·split at h
  ·split at h
   ·split at h
    ·simp at h;exact h.2.2.1.symm
    ·simp at h
   ·simp at h
  ·simp at h
 ·split at h
  ·simp at h
  ·split at h
   ·rename_i out hx
    split at h
    ·simp at h
     rw[←h.2.2.1]
     exact (opx_cls hx).1 hc
    ·simp at h
   ·simp at h
/-- Two steps change places. -/
theorem stepF_comm {φ:Oper→FP} {ops:List Oper} {a x:Oper} {S S1 S2:SS} {ob1 ob2:List Ob} (hi:indepF cfg φ ops a x=true) (h1:stepF P cfg φ ops a S=some (S1,ob1)) (h2:stepF P cfg φ ops x S1=some (S2,ob2)):
  ∃S1',stepF P cfg φ ops x S=some (S1',ob2)∧stepF P cfg φ ops a S1'=some (S2,ob1)∧(obVars ob1=0∨obVars ob2=0):=by
 have hv1:=stepF_nv h1
 have hv2:=stepF_nv h2
 obtain ⟨pc,x1,cs1,n1,hg,hc1,hm1,hd1,rfl⟩:=stepF_iff.1 h1
 obtain ⟨pc',x2,cs2,n2,hg',hc2,hm2,hd2,rfl⟩:=stepF_iff.1 h2
 simp only[indepF,Bool.and_eq_true,Bool.or_eq_true,bne_iff_ne,ne_eq] at hi
 obtain ⟨hi1,hi2,e1,e2,e3,e4,e5,e6,e7,e8⟩:=hi
 have hlx:∀t∈looks ops x,a.dst≠some t:=by
  intro t ht e
  rw[e] at hi1
  simp at hi1
  exact hi1.1 ht
 have hdd:∀d,a.dst=some d→x.dst≠some d:=by
  intro d e
  rw[e] at hi1
  simp at hi1
  exact hi1.2
 have hla:∀t∈looks ops a,x.dst≠some t:=by
  intro t ht e
  rw[e] at hi2
  simp at hi2
  exact hi2 ht
 have ax:∀t∈looks ops x,(putT S.tmps a.dst ⟨pc,x1⟩)[t]?=S.tmps[t]?:=fun t ht=>tmps_putT (hlx t ht)
 have aa:∀t∈looks ops a,(putT S.tmps x.dst ⟨pc',x2⟩)[t]?=S.tmps[t]?:=fun t ht=>tmps_putT (hla t ht)
 rw[guardPres_congr (S:=S) ax] at hg'
 rw[coreC_congr (ev_congr (S:=S) ax)] at hc2
 simp only[List.all_eq_true] at hm1 hm2
 have in1:∀c∈cs1,(match c with| .put r _=>r∈(φ a).W| .frz r=>r∈(φ a).Z):=by
  intro c hc
  have:=hm1 c hc
  cases c with
  |put r b=>simpa [cmdIn] using this
  |frz r=>simpa [cmdIn] using this
 have in2:∀c∈cs2,(match c with| .put r _=>r∈(φ x).W| .frz r=>r∈(φ x).Z):=by
  intro c hc
  have:=hm2 c hc
  cases c with
  |put r b=>simpa [cmdIn] using this
  |frz r=>simpa [cmdIn] using this
 have hn:n1=0∨n2=0:=by
  rcases e8 with h|h
  ·exact .inl (coreC_call hc1 h)
  ·exact .inr (coreC_call hc2 h)
 have hx:coreC P cfg x pc' (S.ev P) (cutTo (φ x).F S.blks) S.nv=some (x2,cs2,n2,ob2):=by
  rw[←hc2]
  rcases e1 with e1|e1
  rotate_left
  ·obtain ⟨f,r,k,k',q1,q2,q3,q4⟩:=store_cmds e1.1 hc1
   simp only at q1
   subst q1
   exact (coreC_IA e1.2 (store_rsh (cutTo_sub _ _ r k q2 q3) q4)).symm
  refine (coreC_after (fun c hc r hr=>?_) ?_).symm
  ·have:=in1 c hc
   cases c with
   |put q b=>exact apart_ne e1 this hr
   |frz q=>
    intro hw
    rcases e6 with h|h
    ·exact absurd hw h
    ·exact apart_ne h this hr
  ·by_cases hcx:cls cfg x= .call
   ·left
    have:n1=0:=by
     rcases e8 with h|h
     ·exact coreC_call hc1 h
     ·exact absurd hcx h
    simp[this]
   ·exact .inr hcx
 refine ⟨{tmps:=putT S.tmps x.dst ⟨pc',x2⟩,blks:=runCmds cs2 S.blks,nv:=S.nv+n2},stepF_iff.2 ⟨pc',x2,cs2,n2,hg',hx,by simpa [List.all_eq_true] using hm2,hd2,rfl⟩,
  stepF_iff.2 ⟨pc,x1,cs1,n1,?_,?_,by simpa [List.all_eq_true] using hm1,hd1,?_⟩,?_⟩
 ·rw[guardPres_congr (S:=S) aa];exact hg
 ·rw[coreC_congr (ev_congr (S:=S) aa),←hc1]
  rcases e2 with e2|e2
  rotate_left
  ·obtain ⟨f,r,k,k',q1,q2,q3,q4⟩:=store_cmds e2.1 hx
   simp only at q1
   subst q1
   exact coreC_IA e2.2 (store_rsh (cutTo_sub _ _ r k q2 q3) q4)
  refine coreC_after (fun c hc r hr=>?_) ?_
  ·have:=in2 c hc
   cases c with
   |put q b=>exact apart_ne e2 this hr
   |frz q=>
    intro hw
    rcases e7 with h|h
    ·exact absurd hw h
    ·exact apart_ne h this hr
  ·by_cases hca:cls cfg a= .call
   ·left
    have:n2=0:=by
     rcases e8 with h|h
     ·exact absurd hca h
     ·exact coreC_call hc2 h
    simp[this]
   ·exact .inr hca
 ·rw[SS.mk.injEq]
  refine ⟨putT_comm hdd,?_,by simp only;omega⟩
  refine (cmds_comm_all cs1 cs2 S.blks fun c hc d hd bs=>cmd_comm c d ?_ bs).symm
  have i1:=in1 c hc
  have i2:=in2 d hd
  cases c with
  |put r b=>cases d with
   |put q b'=>exact apart_ne e3 i1 i2
   |frz q=>exact apart_ne e4 i1 i2
  |frz r=>cases d with
   |put q b'=>exact fun e=>apart_ne e5 i2 i1 e.symm
   |frz q=>trivial
 ·simp only[obVars] at*
  rcases hn with h|h
  ·left;omega
  ·right;omega
/-- An operation goes ahead. -/
theorem runF_move {ρ:List C} {φ:Oper→FP} {ops:List Oper} {x:Oper} {post:List Oper}:∀ {pre:List Oper} {S S':SS} {obs:List Ob},(∀a∈pre,indepF cfg φ ops a x=true)→
  runF (stepF P cfg φ ops) (pre++x::post) S=some (S',obs)→obsHold P ρ S.nv obs→
  ∃S1 ob1 ob2,stepF P cfg φ ops x S=some (S1,ob1)∧runF (stepF P cfg φ ops) (pre++post) S1=some (S',ob2)∧obsHold P ρ S.nv ob1∧obsHold P ρ S1.nv ob2
 | [],S,S',obs,_,h,ho=>by
  simp only[List.nil_append,runF] at h
  split at h
  ·simp at h
  ·rename_i S1 ob1 h1
   split at h
   ·simp at h
   ·rename_i S2 ob2 h2
    simp at h
    obtain ⟨rfl,rfl⟩:=h
    rw[obsHold_app] at ho
    exact ⟨S1,ob1,ob2,h1,h2,ho.1,by rw[stepF_nv h1];exact ho.2⟩
 |a::pre,S,S',obs,hi,h,ho=>by
  simp only[List.cons_append,runF] at h
  split at h
  ·simp at h
  ·rename_i Sa oba ha
   split at h
   ·simp at h
   ·rename_i S2 ob2 h2
    simp at h
    obtain ⟨rfl,rfl⟩:=h
    rw[obsHold_app] at ho
    obtain ⟨S3,ob3,ob4,h3,h4,ho3,ho4⟩:=runF_move (fun a' ha'=>hi a' (by simp[ha'])) h2 (by rw[stepF_nv ha];exact ho.2)
    obtain ⟨S1',e1,e2,e3⟩:=stepF_comm (hi a (by simp)) ha h3
    have n1:=stepF_nv ha
    have n2:=stepF_nv h3
    have n3:=stepF_nv e1
    have n4:=stepF_nv e2
    simp only[obVars] at e3
    refine ⟨S1',ob3,oba++ob4,e1,?_,?_,?_⟩
    ·simp only[List.cons_append,runF,e2,h4]
    ·rcases e3 with e|e
     ·rw[show S.nv=Sa.nv by omega];exact ho3
     ·exact obsHold_any _ _ _ e ho3
    ·rw[obsHold_app]
     refine ⟨?_,by rw[←n4];exact ho4⟩
     rcases e3 with e|e
     ·exact obsHold_any _ _ _ e ho.1
     ·rw[show S1'.nv=S.nv by omega];exact ho.1
theorem runF_runOps {φ:Oper→FP} {ops:List Oper}:∀ {l:List Oper} {S:SS} {y:SS×List Ob},runF (stepF P cfg φ ops) l S=some y→runOps P cfg ops l S=some y
 | [],_,_,h=>h
 |o::l,S,y,h=>by
  simp only[runF] at h
  split at h
  ·simp at h
  ·rename_i S1 ob1 h1
   split at h
   ·simp at h
   ·rename_i S2 ob2 h2
    simp only[runOps,stepF_astep h1,runF_runOps h2]
    exact h
end
section
variable {P:Program} {cfg:Cfg} {N0:Nat→Prop} {w0:Wb} {ρ:List C} {Q:Exit→Act→World→Prop}
/-- Any order that the region allows. -/
theorem any_soundF {ops:List Oper} {φ:Oper→FP} (hback:backOk ops=true) (hpairs:pairsOkF cfg φ ops (ancs ops [])=true) {S':SS} (hq:∀a' w',(∃hv',RelH P N0 w0 ρ S' hv' a' w')→Q .normal a' w'):
  ∀(fuel:Nat) (listed:Array Bool) (S:SS) (hv:Nat→Value) (a:Act) (w:World) (obs:List Ob),RelH P N0 w0 ρ S hv a w→
   runF (stepF P cfg φ ops) (rem listed 0 ops) S=some (S',obs)→obsHold P ρ S.nv obs→listed.size=ops.length→(rem listed 0 ops).length≤fuel→
   (∀i,listed.getD i false=true→∀j,((ancs ops []).getD i 0).testBit j=true→listed.getD j false=true)→wpAny P .any ops.toArray Q fuel listed a w:=by
 have hgd:∀(listed:Array Bool) (i:Nat),listed.size=ops.length→i<ops.length→listed.getD i true=listed.getD i false:=by
  intro listed i h1 h2
  have:i<listed.size:=by omega
  simp[Array.getD,this]
 have hnil:∀listed:Array Bool,listed.size=ops.length→Region.ready .any ops.toArray listed=[]→rem listed 0 ops=[]:=by
  intro listed hs hr
  apply rem_nil
  intro j hj
  rw[Nat.zero_add]
  induction j using Nat.strongRecOn with
  |_ j ih=>
   cases hb:listed.getD j true with
   |true=>rfl
   |false=>
    exfalso
    have hm:j∈Region.ready .any ops.toArray listed:=by
     rw[mem_ready]
     refine ⟨hb,ops[j],by simp[hj],fun e he hbe=>?_⟩
     have h1:=zipIdx_all hback (List.getElem?_eq_getElem hj)
     simp only[List.all_eq_true] at h1
     have h2:=h1 e (by simpa using he)
     simp[hbe] at h2
     rw[←hgd listed e.on hs (by omega)]
     exact ih e.on h2 (by omega)
    rw[hr] at hm
    cases hm
 intro fuel
 induction fuel with
 |zero=>
  intro listed S hv a w obs hrel hrun ho hs hf hcl
  have h0:rem listed 0 ops=[]:=List.length_eq_zero_iff.1 (by omega)
  refine ⟨?_,?_⟩
  ·cases hr:Region.ready .any ops.toArray listed with
   |nil=>rfl
   |cons i r=>
    have hm:i∈Region.ready .any ops.toArray listed:=by rw[hr];simp
    obtain ⟨h1,o,h2,_⟩:=mem_ready.1 hm
    rw[rem_split (listed:=listed) (l:=ops) (k:=0) (i:=i) (x:=o) (by simpa using h2) (by simpa using h1)] at h0
    simp at h0
  ·rw[h0] at hrun
   simp[runF] at hrun
   obtain ⟨rfl,rfl⟩:=hrun
   exact hq a w ⟨hv,hrel⟩
 |succ fuel ih=>
  intro listed S hv a w obs hrel hrun ho hs hf hcl
  refine ⟨fun hr=>?_,fun i hi=>?_⟩
  ·rw[hnil listed hs hr] at hrun
   simp[runF] at hrun
   obtain ⟨rfl,rfl⟩:=hrun
   exact hq a w ⟨hv,hrel⟩
  ·obtain ⟨h1,x,h2,hall⟩:=mem_ready.1 hi
   have hx:ops[i]?=some x:=by simpa using h2
   have hlt:i<ops.length:=(List.getElem?_eq_some_iff.1 hx).1
   have hanc:∀j,((ancs ops []).getD i 0).testBit j=true→listed.getD j false=true:=by
    intro j hj
    obtain ⟨e,he,hb,h3⟩:=ancs_spec ops [] i x j hx (by simpa using hj)
    have hl:=hall e (by simpa using he) hb
    rcases h3 with rfl|h3
    ·exact hl
    ·exact hcl e.on hl j h3
   have hsp:=rem_split (listed:=listed) (l:=ops) (k:=0) (i:=i) (x:=x) hx (by simpa using h1)
   have hst:=rem_set (listed:=listed) (l:=ops) (k:=0) (i:=i) (x:=x) hx (by simpa using h1) (by omega)
   rw[Nat.zero_add] at hst hsp
   rw[hsp] at hrun
   have hind:∀b∈rem listed 0 (ops.take i),indepF cfg φ ops b x=true:=by
    intro b hb
    obtain ⟨j,hj,hjl⟩:=mem_rem hb
    rw[Nat.zero_add] at hjl
    rw[List.getElem?_take] at hj
    split at hj
    ·rename_i hji
     have h3:=zipIdx_all (zipIdx_all hpairs hx) hj
     simp only[Bool.or_eq_true,Bool.not_eq_true',decide_eq_false_iff_not] at h3
     rcases h3 with (h3|h3)|h3
     ·exact absurd hji h3
     ·have:=hanc j h3
      rw[←hgd listed j hs (by omega),hjl] at this
      cases this
     ·exact h3
    ·cases hj
   obtain ⟨S1,ob1,ob2,e1,e2,o1,o2⟩:=runF_move hind hrun ho
   have next:∀a' w',(∃hv',RelH P N0 w0 ρ S1 hv' a' w')→wpAny P .any ops.toArray Q fuel (listed.setIfInBounds i true) a' w':=by
    rintro a' w' ⟨hv',hr'⟩
    refine ih _ S1 hv' a' w' ob2 hr' (by rw[hst];exact e2) o2 (by simpa using hs) ?_ ?_
    ·rw[hst]
     rw[hsp] at hf
     simp at hf ⊢
     omega
    ·intro q hq' j hj
     by_cases hqi:i=q
     ·subst hqi
      exact getD_set_true (hanc j hj)
     ·rw[getD_set_ne false hqi] at hq'
      exact getD_set_true (hcl q hq' j hj)
   unfold wpOp
   simp only[h2]
   have hss:=astep_sound (Q:=Q) hrel (stepF_astep e1) o1
   split
   ·rename_i hw
    rw[if_pos hw] at hss
    exact .inl (Oper.wp_mono next hss)
   ·rename_i hw
    rw[if_neg hw] at hss
    exact next _ _ hss
/-- A region, by classes or by footprints. -/
theorem region_sound2 {id:Nat} {ops:Array Oper} {draw:Bool} {S S':SS} {hv:Nat→Value} {a:Act} {w:World} {obs:List Ob} (hrel:RelH P N0 w0 ρ S hv a w)
  (hd:(draw&& !(regionOk P cfg ops.toList||regionOkF P cfg ops.toList S))=false) (h:runOps P cfg ops.toList ops.toList S=some (S',obs)) (ho:obsHold P ρ S.nv obs)
  (hq:∀a' w',(∃hv',RelH P N0 w0 ρ S' hv' a' w')→Q .normal a' w'):(Code.region id ops draw).wp P Q a w:=by
 by_cases hr:(draw&& !regionOk P cfg ops.toList)=false
 ·exact region_sound hrel hr h ho hq
 ·cases draw with
  |false=>simp at hr
  |true=>
   simp at hr
   simp[hr] at hd
   unfold regionOkF at hd
   simp only[Bool.and_eq_true] at hd
   obtain ⟨hm,hback,hpairs,hsome⟩:=hd
   obtain ⟨y,hy⟩:=Option.isSome_iff_exists.1 hsome
   have hy2:=runF_runOps hy
   rw[h] at hy2
   injection hy2 with hy2
   subst hy2
   refine wp_region_any hm ?_
   have key:∀(l:List Oper) (k n:Nat),k+l.length≤n→rem (Array.replicate n false) k l=l:=by
    intro l
    induction l with
    |nil=>intros;rfl
    |cons o l ih=>
     intro k n hk
     simp at hk
     have:(Array.replicate n false).getD k true=false:=by simp[Array.getD,show k<n by omega]
     simp only[rem,this]
     rw[ih (k+1) n (by omega)]
     simp
   have hk:=key ops.toList 0 ops.size (by simp)
   have:=any_soundF (Q:=Q) hback hpairs hq ops.size (Array.replicate ops.size false) S hv a {w with drawn:=w.drawn+1} obs (hrel.drew _) (by rw[hk];exact hy) ho (by simp) (by rw[hk];simp)
    (fun i hi=>by exfalso;by_cases hlt:i<ops.size<;>simp[Array.getD,hlt] at hi)
   simpa using this
end
end Go.Vc

namespace Go.Vc
section
variable {P:Program} {N0:Nat→Prop} {w0:Wb} {ρ ρ':List C} {S:SS} {hv:Nat→Value} {a:Act} {w:World} {N:Nat→Prop} {bs:List Blk}
/-- On expressions of n variables both answer the same. -/
def EnvEq (n:Nat) (ρ ρ':List C):Prop:=∀e:E,e.bd n=true→e.eval ρ'=e.eval ρ
theorem EnvEq.app (ρ σ:List C):EnvEq ρ.length ρ (ρ++σ):=fun e h=>E.eval_app ρ σ e h
theorem EnvEq.pres {n:Nat} (h:EnvEq n ρ ρ') {p:Pres} (hp:presBd n p=true):presTrue ρ' p↔presTrue ρ p:=by
 unfold presBd at hp
 rw[List.all_eq_true] at hp
 exact ⟨fun H x hx=>by rw[←h _ (hp x hx)];exact H x hx,fun H x hx=>by rw[h _ (hp x hx)];exact H x hx⟩
theorem EnvEq.args {n:Nat} (h:EnvEq n ρ ρ') {l:List (Sh×E)} (hl:l.all (fun x=>x.2.bd n)=true):evalArgs ρ' l=evalArgs ρ l:=by
 rw[List.all_eq_true] at hl
 exact List.map_congr_left fun x hx=>by rw[h _ (hl x hx)]
def bsBd (n:Nat) (bs:List Blk):Prop:=∀(r:Nat) (k:Blk),bs[r]?=some k→presBd n k.pres=true∧k.lb.bd n=true
theorem bsBd.row {n:Nat} (h:bsBd n bs) {r:Nat} {s:Sh} {e:E} {p:Pres} (hr:rowIn bs r=some (s,e,p)):presBd n p=true∧e.bd n=true:=by
 unfold rowIn at hr
 split at hr
 ·rename_i hk;simp at hr;obtain ⟨rfl,rfl,rfl⟩:=hr;exact h r _ hk
 ·simp at hr
theorem bsBd.box {n:Nat} (h:bsBd n bs) {r:Nat} {cs:List SX} {p:Pres} (hr:boxIn bs r=some (cs,p)):presBd n p=true:=by
 unfold boxIn at hr
 split at hr
 ·rename_i hk;simp at hr;obtain ⟨rfl,rfl⟩:=hr;exact (h r _ hk).1
 ·simp at hr
theorem RdX.env {n:Nat} (h:EnvEq n ρ ρ') (hb:bsBd n bs) {x:SX} (hx:x.bd n=true) {v:Value} (H:RdX w N ρ bs hv x v):RdX w N ρ' bs hv x v:=by
 cases x with
 |none=>trivial
 |dat s e=>simp only[SX.bd] at hx;simp only[RdX] at H ⊢;rw[h e hx];exact H
 |res l=>simp only[SX.bd] at hx;simp only[RdX] at H ⊢;rw[h.args hx];exact H
 |resO r m l=>
  simp only[SX.bd,Bool.and_eq_true] at hx
  obtain ⟨H1,v1,vr,H2,H3,H4,H5⟩:=H
  refine ⟨H1,v1,vr,H2,fun s e p hr hp=>?_,by rw[h.args hx.2];exact H4,H5⟩
  obtain ⟨h1,h2⟩:=hb.row hr
  rw[h m hx.1,h e h2]
  exact H3 s e p hr ((h.pres h1).1 hp)
 |full r m=>
  simp only[SX.bd] at hx
  refine ⟨H.1,fun s e p hr hp=>?_⟩
  obtain ⟨h1,h2⟩:=hb.row hr
  rw[h m hx,h e h2]
  exact H.2 s e p hr ((h.pres h1).1 hp)
 |view r off m=>
  simp only[SX.bd,Bool.and_eq_true] at hx
  refine ⟨H.1,fun s e p hr hp=>?_⟩
  obtain ⟨h1,h2⟩:=hb.row hr
  rw[h off hx.1,h m hx.2,h e h2]
  exact H.2 s e p hr ((h.pres h1).1 hp)
 |ref r i fo s fld=>
  simp only[SX.bd] at hx
  refine ⟨H.1,fun es e p hr hp=>?_,fun cs p hr hp=>?_⟩
  ·obtain ⟨h1,h2⟩:=hb.row hr
   rw[h i hx,h e h2]
   exact H.2.1 es e p hr ((h.pres h1).1 hp)
  ·exact H.2.2 cs p hr ((h.pres (hb.box hr)).1 hp)
 |ptr s e=>simp only[SX.bd] at hx;simp only[RdX] at H ⊢;rw[h e hx];exact H
 |fn f=>exact H
 |nilq e=>simp only[SX.bd] at hx;simp only[RdX] at H ⊢;rw[h e hx];exact H
 |meth t s n=>exact H
 |mpo r=>exact H
 |ito r=>exact H
 |nxt s p=>simp only[SX.bd,Bool.and_eq_true] at hx;simp only[RdX] at H ⊢;rw[h s hx.1,h p hx.2];exact H
 |okF=>exact H
theorem RdXs.env {n:Nat} (h:EnvEq n ρ ρ') (hb:bsBd n bs):∀ {l:List SX} {vs:List Value},l.all (·.bd n)=true→RdXs w N ρ bs hv l vs→RdXs w N ρ' bs hv l vs
 | [],_,_,H=>H
 |x::l,_,hl,⟨v,r,h1,h2,h3⟩=>by
  simp only[List.all_cons,Bool.and_eq_true] at hl
  exact ⟨v,r,h1,h2.env h hb hl.1,RdXs.env h hb hl.2 h3⟩
theorem BlkOk.env {n:Nat} {B:Nat→Prop} (h:EnvEq n ρ ρ') (hb:bsBd n bs) {r:Nat} {lb:LB} (hl:lb.bd n=true) (H:BlkOk w B N ρ bs hv r lb):BlkOk w B N ρ' bs hv r lb:=by
 cases lb with
 |none=>trivial
 |dead=>trivial
 |row s e=>simp only[LB.bd] at hl;simp only[BlkOk] at H ⊢;rw[h e hl];exact H
 |box cs=>
  simp only[LB.bd] at hl
  obtain ⟨g,bt,arr,h1,h2,h3,h4⟩:=H
  exact ⟨g,bt,arr,h1,h2,h3,h4.env h hb hl⟩
 |mp k s e=>simp only[LB.bd] at hl;simp only[BlkOk] at H ⊢;rw[h e hl];exact H
 |sit s p=>simp only[LB.bd,Bool.and_eq_true] at hl;simp only[BlkOk] at H ⊢;rw[h s hl.1,h p hl.2];exact H
theorem NN.env {n:Nat} {B:Nat→Prop} (h:EnvEq n ρ ρ') (hb:bsBd n bs):NN N0 B ρ' bs hv=NN N0 B ρ bs hv:=by
 funext b
 apply propext
 constructor
 ·exact fun H=>⟨H.1,fun r k hr hl hf hp=>H.2 r k hr hl hf ((h.pres (hb r k hr).1).2 hp)⟩
 ·exact fun H=>⟨H.1,fun r k hr hl hf hp=>H.2 r k hr hl hf ((h.pres (hb r k hr).1).1 hp)⟩
theorem SS.bd_tmps {n:Nat} (h:S.bd n=true) {t:Nat} {ts:TS} (ht:S.tmps[t]?=some ts):presBd n ts.pres=true∧ts.sx.bd n=true:=by
 simp only[SS.bd,Bool.and_eq_true,List.all_eq_true] at h
 exact h.1 ts (List.mem_of_getElem? ht)
theorem SS.bd_blks {n:Nat} (h:S.bd n=true):bsBd n S.blks:=by
 simp only[SS.bd,Bool.and_eq_true,List.all_eq_true] at h
 exact fun r k hk=>h.2 k (List.mem_of_getElem? hk)
theorem RelH.env {n:Nat} (h:EnvEq n ρ ρ') (hb:S.bd n=true) (H:RelH P N0 w0 ρ S hv a w):RelH P N0 w0 ρ' S hv a w:=by
 have hbs:=SS.bd_blks hb
 refine ⟨H.defers,H.tsz,H.below,fun t ts ht hp=>?_,fun t ts ht hp=>?_,fun r k hr hp=>?_,fun r r' k k' g hr hr' hne hl hl' hp hp'=>?_⟩
 ·obtain ⟨h1,h2⟩:=SS.bd_tmps hb ht
  rw[NN.env h hbs]
  exact (H.tmps t ts ht ((h.pres h1).1 hp)).env h hbs h2
 ·exact H.und t ts ht fun hq=>hp ((h.pres (SS.bd_tmps hb ht).1).2 hq)
 ·rw[NN.env h hbs]
  exact (H.blks r k hr ((h.pres (hbs r k hr).1).1 hp)).env h hbs (hbs r k hr).2
 ·exact H.dist r r' k k' g hr hr' hne hl hl' ((h.pres (hbs r k hr).1).1 hp) ((h.pres (hbs r' k' hr').1).1 hp')
/-- Obligations ahead of a condition. -/
theorem obsVC_sound {Post:List (Sh×C)→Prop} {Bs:List (List C→Prop)} {k:VC}:∀ {obs:List Ob} {ρ:List C},obsBd ρ.length obs=true→(obsVC obs k).holds P Post Bs ρ→
  ∃σ,obsHold P (ρ++σ) ρ.length obs∧k.holds P Post Bs (ρ++σ)∧σ.length=obVars obs
 | [],ρ,_,h=>⟨[],trivial,by rw[List.append_nil];exact h,rfl⟩
 | .asrt p e::l,ρ,hb,h=>by
  simp only[obsBd,Ob.bd,Ob.vars,Nat.add_zero,Bool.and_eq_true] at hb
  obtain ⟨h1,h2⟩:=h
  obtain ⟨σ,e1,e2,e3⟩:=obsVC_sound (obs:=l) hb.2 h2
  refine ⟨σ,⟨fun hp=>?_,e1⟩,e2,by simpa [obVars,Ob.vars] using e3⟩
  have henv:=EnvEq.app ρ σ
  rw[henv e hb.1.2]
  exact h1 ((henv.pres hb.1.1).1 hp)
 | .call p f args rets::l,ρ,hb,h=>by
  simp only[obsBd,Ob.bd,Ob.vars,Bool.and_eq_true] at hb
  obtain ⟨res,h0,h1,h2⟩:=h
  obtain ⟨σ,e1,e2,e3⟩:=obsVC_sound (obs:=l) (ρ:=ρ++res) (by rw[List.length_append,h0];exact hb.2) h2
  refine ⟨res++σ,⟨fun hp=>?_,?_⟩,by rw[←List.append_assoc];exact e2,?_⟩
  ·have henv:=EnvEq.app ρ (res++σ)
   refine ⟨?_,.inr (by simp[h0])⟩
   rw[henv.args hb.1.2]
   have e4:((ρ++(res++σ)).drop ρ.length).take rets.length=res:=by simp[←h0]
   rw[e4]
   exact h1 ((henv.pres hb.1.1).1 hp)
  ·rw[←List.append_assoc]
   rw[List.length_append,h0] at e1
   exact e1
  ·simp only[obVars,List.map_cons,List.sum_cons,Ob.vars,List.length_append] at e3 ⊢
   omega
theorem E.eval_subst {base:Nat} {es:List E} (hb:base≤ρ.length):∀e:E,e.bd (base+es.length)=true→e.eval (ρ.take base++es.map (·.eval ρ))=(e.subst base es).eval ρ:=by
 intro e
 induction e with
 |var i=>
  intro h
  simp only[E.bd,decide_eq_true_eq] at h
  simp only[E.subst,E.eval]
  by_cases hi:i<base
  ·rw[if_pos hi]
   simp only[E.eval,List.getD]
   rw[List.getElem?_append_left (by simp;omega),List.getElem?_take_of_lt hi]
  ·rw[if_neg hi]
   simp only[List.getD]
   rw[List.getElem?_append_right (by simp;omega)]
   have hl:(ρ.take base).length=base:=by simp;omega
   rw[hl]
   have h2:i-base<es.length:=by omega
   simp[h2]
 |_=>intro h;simp_all[E.bd,E.eval,E.subst]
end
end Go.Vc

namespace Go.Vc
section
variable {P:Program} {N0:Nat→Prop} {w0:Wb} {ρ:List C} {S H:SS} {hv:Nat→Value} {a:Act} {w:World} {base:Nat} {es:List E} {π:Ren}
theorem Exact_subst:∀ {s:Sh} {e:E} {vs:List Value},Exact s (e.subst base es) vs→Exact s e vs
 | .sl s,e,vs,h=>by cases e<;>first|trivial|exact h
 | .pair x y,e,vs,h=>by
  cases e with
  |cons p q=>
   obtain ⟨va,vb,h1,h2,h3,h4⟩:=h
   exact ⟨va,vb,h1,h2,Exact_subst h3,Exact_subst h4⟩
  |_=>trivial
 | .int k,e,vs,_=>by cases e<;>trivial
 | .bool,e,vs,_=>by cases e<;>trivial
 | .str,e,vs,_=>by cases e<;>trivial
 | .unit,e,vs,_=>by cases e<;>trivial
 | .ifc _ _,e,vs,_=>by cases e<;>trivial
 | .nili,e,vs,_=>by cases e<;>trivial
 | .fun_ _,e,vs,_=>by cases e<;>trivial
 | .mp _ _,e,vs,_=>by cases e<;>trivial
/-- The values of the rows at the head. -/
def headHv (π:Ren) (H:SS) (hv:Nat→Value) (r:Nat):Value:=
 match rowAt H r with
 |some _=>match ren π r with
  |some (some q)=>hv q
  |_=> .slice none 0 0
 |none=>hv r
theorem rowAt_in {r:Nat} {s:Sh} {e:E} {f:Bool} (h:rowAt S r=some (s,e,f)):S.blks[r]?=some ⟨.row s e,f,[]⟩:=by
 unfold rowAt at h
 split at h
 ·rename_i hk;simp at h;obtain ⟨rfl,rfl,rfl⟩:=h;exact hk
 ·simp at h
theorem boxAt_in {r:Nat} {cs:List SX} {f:Bool} (h:boxAt S r=some (cs,f)):S.blks[r]?=some ⟨.box cs,f,[]⟩:=by
 unfold boxAt at h
 split at h
 ·rename_i hk;simp at h;obtain ⟨rfl,rfl⟩:=h;exact hk
 ·simp at h
theorem weakBs_at:∀ {l:List Blk} {k:Nat},weakBs base es π H S k l=true→∀ {i:Nat} {b:Blk},l[i]?=some b→weakB base es π H S (k+i) b=true
 | [],_,_,_,_,h=>by simp at h
 |x::l,k,hw,0,b,h=>by simp at h;subst h;simp only[weakBs,Bool.and_eq_true] at hw;exact hw.1
 |x::l,k,hw,i+1,b,h=>by
  simp only[weakBs,Bool.and_eq_true] at hw
  have:=weakBs_at hw.2 (i:=i) (b:=b) (by simpa using h)
  rwa[show k+1+i=k+(i+1) by omega] at this
theorem weakTs_at:∀ {l m:List TS},weakTs base es π H l m=true→l.length=m.length∧∀ {i:Nat} {x:TS},l[i]?=some x→
  x.pres=[]∧(x.sx= .none∨∃y,m[i]?=some y∧y.pres=[]∧weakX base es π H x.sx y.sx=true)
 | [],[],_=>⟨rfl,fun h=>by simp at h⟩
 | [],_::_,h=>by simp[weakTs] at h
 |_::_,[],h=>by simp[weakTs] at h
 |x::l,y::m,h=>by
  simp only[weakTs,Bool.and_eq_true,Bool.or_eq_true,decide_eq_true_eq] at h
  obtain ⟨h1,h2⟩:=weakTs_at h.2
  refine ⟨by simp[h1],fun {i z} hz=>?_⟩
  cases i with
  |zero=>
   simp at hz
   subst hz
   exact ⟨h.1.1,h.1.2.imp id fun h3=>⟨y,by simp,h3.1,h3.2⟩⟩
  |succ i=>simpa using h2 (by simpa using hz)
theorem renInj_spec:∀ {π:Ren},renInj π=true→∀ {r r' q:Nat},ren π r=some (some q)→ren π r'=some (some q)→r=r'
 | [],_,_,_,_,h,_=>by simp[ren] at h
 |(k,x)::π,hi,r,r',q,h,h'=>by
  simp only[renInj,Bool.and_eq_true] at hi
  have mem:∀ {r q:Nat},ren π r=some (some q)→∃z∈π,z.2=some q:=by
   intro r q h
   unfold ren at h
   cases hf:π.find? fun x=>x.1==r with
   |none=>simp[hf] at h
   |some z=>simp[hf] at h;exact ⟨z,List.mem_of_find?_eq_some hf,h⟩
  have cons:∀r,ren ((k,x)::π) r=if k=r then some x else ren π r:=by
   intro r
   unfold ren
   by_cases e:k=r<;>simp[e]
  rw[cons] at h h'
  by_cases e:k=r<;>by_cases e':k=r'
  ·omega
  ·rw[if_pos e] at h
   rw[if_neg e'] at h'
   injection h with h
   subst h
   obtain ⟨z,hz,hz2⟩:=mem h'
   have:=hi.1
   simp only[List.all_eq_true] at this
   have:=this z hz
   rw[hz2] at this
   simp at this
  ·rw[if_neg e] at h
   rw[if_pos e'] at h'
   injection h' with h'
   subst h'
   obtain ⟨z,hz,hz2⟩:=mem h
   have:=hi.1
   simp only[List.all_eq_true] at this
   have:=this z hz
   rw[hz2] at this
   simp at this
  ·rw[if_neg e] at h
   rw[if_neg e'] at h'
   exact renInj_spec hi.2 h h'
theorem mapAt_in {r:Nat} {k:IntKind} {s:Sh} {e:E} {f:Bool} (h:mapAt S r=some (k,s,e,f)):S.blks[r]?=some ⟨.mp k s e,f,[]⟩:=by
 unfold mapAt at h
 split at h
 ·rename_i hk;simp at h;obtain ⟨rfl,rfl,rfl,rfl⟩:=h;exact hk
 ·simp at h
theorem sitAt_in {r:Nat} {s p:E} {f:Bool} (h:sitAt S r=some (s,p,f)):S.blks[r]?=some ⟨.sit s p,f,[]⟩:=by
 unfold sitAt at h
 split at h
 ·rename_i hk;simp at h;obtain ⟨rfl,rfl,rfl⟩:=h;exact hk
 ·simp at h
/-- What the check of a head gives, block by block. -/
structure Weak (base:Nat) (es:List E) (π:Ren) (H S:SS):Prop where
 len:H.tmps.length=S.tmps.length
 tmps:∀(t:Nat) (x:TS),H.tmps[t]?=some x→x.pres=[]∧(x.sx= .none∨∃y,S.tmps[t]?=some y∧y.pres=[]∧weakX base es π H x.sx y.sx=true)
 row:∀(r:Nat) (s:Sh) (e:E) (f:Bool) (p:Pres),H.blks[r]?=some ⟨.row s e,f,p⟩→p=[]∧
  ((∃q e' f',ren π r=some (some q)∧S.blks[q]?=some ⟨.row s e',f',[]⟩∧e.subst base es=e'∧(f=false→f'=false))∨(ren π r=some none∧e.subst base es= .nil∧s.size≠0))
 box:∀(r:Nat) (cs:List SX) (f:Bool) (p:Pres),H.blks[r]?=some ⟨.box cs,f,p⟩→p=[]∧∃cs' f',S.blks[r]?=some ⟨.box cs',f',[]⟩∧(f=false→f'=false)∧weakXs base es π H cs cs'=true
 mp:∀(r:Nat) (k:IntKind) (s:Sh) (e:E) (f:Bool) (p:Pres),H.blks[r]?=some ⟨.mp k s e,f,p⟩→p=[]∧∃e' f',S.blks[r]?=some ⟨.mp k s e',f',[]⟩∧(f=false→f'=false)∧e.subst base es=e'
 sit:∀(r:Nat) (s q:E) (f:Bool) (p:Pres),H.blks[r]?=some ⟨.sit s q,f,p⟩→p=[]∧∃s' q' f',S.blks[r]?=some ⟨.sit s' q',f',[]⟩∧(f=false→f'=false)∧s.subst base es=s'∧q.subst base es=q'
 inj:∀ {r r' q:Nat},ren π r=some (some q)→ren π r'=some (some q)→r=r'
theorem weak_of (h:weakOk base es π H S=true):Weak base es π H S:=by
 simp only[weakOk,Bool.and_eq_true] at h
 obtain ⟨h1,h2,h3⟩:=h
 obtain ⟨hl,ht⟩:=weakTs_at h1
 refine ⟨hl,fun t x hx=>ht hx,fun r s e f p hr=>?_,fun r cs f p hr=>?_,fun r k s e f p hr=>?_,fun r s q f p hr=>?_,fun h h'=>renInj_spec h3 h h'⟩
 ·have:=weakBs_at h2 hr
  rw[Nat.zero_add] at this
  cases p with
  |cons _ _=>simp[weakB] at this
  |nil=>
   refine ⟨rfl,?_⟩
   simp only[weakB] at this
   split at this
   ·rename_i q hq
    split at this
    ·rename_i s' e' f' hs
     simp only[Bool.and_eq_true,decide_eq_true_eq] at this
     obtain ⟨⟨rfl,h5⟩,h6⟩:=this
     exact .inl ⟨q,e',f',hq,rowAt_in hs,h5,fun hf=>by simpa [hf] using h6⟩
    ·simp at this
   ·rename_i hq
    simp only[Bool.and_eq_true,decide_eq_true_eq,bne_iff_ne] at this
    exact .inr ⟨hq,this.1,this.2⟩
   ·simp at this
 ·have:=weakBs_at h2 hr
  rw[Nat.zero_add] at this
  cases p with
  |cons _ _=>simp[weakB] at this
  |nil=>
   refine ⟨rfl,?_⟩
   simp only[weakB] at this
   split at this
   ·rename_i cs' f' hs
    simp only[Bool.and_eq_true] at this
    exact ⟨cs',f',boxAt_in hs,fun hf=>by simpa [hf] using this.1,this.2⟩
   ·simp at this
 ·have:=weakBs_at h2 hr
  rw[Nat.zero_add] at this
  cases p with
  |cons _ _=>simp[weakB] at this
  |nil=>
   refine ⟨rfl,?_⟩
   simp only[weakB] at this
   split at this
   ·rename_i k' s' e' f' hs
    simp only[Bool.and_eq_true,decide_eq_true_eq] at this
    obtain ⟨rfl,rfl,h5,h6⟩:=this
    exact ⟨e',f',mapAt_in hs,fun hf=>by simpa [hf] using h6,h5⟩
   ·simp at this
 ·have:=weakBs_at h2 hr
  rw[Nat.zero_add] at this
  cases p with
  |cons _ _=>simp[weakB] at this
  |nil=>
   refine ⟨rfl,?_⟩
   simp only[weakB] at this
   split at this
   ·rename_i s' q' f' hs
    simp only[Bool.and_eq_true,decide_eq_true_eq] at this
    obtain ⟨h4,h5,h6⟩:=this
    exact ⟨s',q',f',sitAt_in hs,fun hf=>by simpa [hf] using h6,h4,h5⟩
   ·simp at this
theorem row_rowAt {r:Nat} {s:Sh} {e:E} {f:Bool} (h:S.blks[r]?=some ⟨.row s e,f,[]⟩):rowAt S r=some (s,e,f):=by unfold rowAt;rw[h]
theorem row_rowIn {bs:List Blk} {r:Nat} {s:Sh} {e:E} {f:Bool} {p:Pres} (h:bs[r]?=some ⟨.row s e,f,p⟩):rowIn bs r=some (s,e,p):=by unfold rowIn;rw[h]
theorem box_boxIn {bs:List Blk} {r:Nat} {cs:List SX} {f:Bool} {p:Pres} (h:bs[r]?=some ⟨.box cs,f,p⟩):boxIn bs r=some (cs,p):=by unfold boxIn;rw[h]
theorem rowIn_row {bs:List Blk} {r:Nat} {s:Sh} {e:E} {p:Pres} (h:rowIn bs r=some (s,e,p)):∃f,bs[r]?=some ⟨.row s e,f,p⟩:=by
 unfold rowIn at h
 split at h
 ·rename_i hk;simp at h;obtain ⟨rfl,rfl,rfl⟩:=h;exact ⟨_,hk⟩
 ·simp at h
theorem boxIn_box {bs:List Blk} {r:Nat} {cs:List SX} {p:Pres} (h:boxIn bs r=some (cs,p)):∃f,bs[r]?=some ⟨.box cs,f,p⟩:=by
 unfold boxIn at h
 split at h
 ·rename_i hk;simp at h;obtain ⟨rfl,rfl⟩:=h;exact ⟨_,hk⟩
 ·simp at h
theorem headHv_row {r q:Nat} {s:Sh} {e:E} {f:Bool} (h:H.blks[r]?=some ⟨.row s e,f,[]⟩) (hq:ren π r=some (some q)):headHv π H hv r=hv q:=by
 unfold headHv;rw[row_rowAt h,hq]
theorem headHv_nil {r:Nat} {s:Sh} {e:E} {f:Bool} (h:H.blks[r]?=some ⟨.row s e,f,[]⟩) (hq:ren π r=some none):headHv π H hv r= .slice none 0 0:=by
 unfold headHv;rw[row_rowAt h,hq]
theorem headHv_box {r:Nat} {cs:List SX} {f:Bool} {p:Pres} (h:H.blks[r]?=some ⟨.box cs,f,p⟩):headHv π H hv r=hv r:=by
 unfold headHv
 have:rowAt H r=none:=by unfold rowAt;rw[h]
 rw[this]
theorem headHv_obj {r:Nat} {lb:LB} {f:Bool} {p:Pres} (h:H.blks[r]?=some ⟨lb,f,p⟩) (hn:∀s e,lb≠ .row s e):headHv π H hv r=hv r:=by
 unfold headHv
 have:rowAt H r=none:=by
  unfold rowAt
  rw[h]
  cases lb with
  |row s e=>exact absurd rfl (hn s e)
  |_=>rfl
 rw[this]
theorem weakX_sound (hw:Weak base es π H S) (hb:base≤ρ.length) (hbd:H.bd (base+es.length)=true) {N:Nat→Prop} {x y:SX} {v:Value} (hx:x.bd (base+es.length)=true)
  (h:weakX base es π H x y=true) (hr:RdX w N ρ S.blks hv y v):RdX w N (ρ.take base++es.map (·.eval ρ)) H.blks (headHv π H hv) x v:=by
 have hbs:=SS.bd_blks hbd
 have hev:∀e:E,e.bd (base+es.length)=true→e.eval (ρ.take base++es.map (·.eval ρ))=(e.subst base es).eval ρ:=fun e he=>E.eval_subst hb e he
 unfold weakX at h
 split at h
 ·trivial
 ·rename_i s e s' e'
  simp only[Bool.and_eq_true,decide_eq_true_eq] at h
  obtain ⟨rfl,rfl⟩:=h
  simp only[SX.bd] at hx
  obtain ⟨vs,h1,h2,h3⟩:=hr
  exact ⟨vs,by rw[hev e hx];exact h1,h2,Exact_subst h3⟩
 ·rename_i r n r' n'
  simp only[Bool.and_eq_true,decide_eq_true_eq,Bool.or_eq_true,Option.isSome_iff_exists] at h
  obtain ⟨⟨⟨⟨s,e,f⟩,hH⟩,hren⟩,hlen⟩:=h
  have hHr:=rowAt_in hH
  simp only[SX.bd] at hx
  refine ⟨⟨_,hHr,by simp⟩,fun s1 e1 p1 hr1 _=>?_⟩
  rw[row_rowIn hHr] at hr1
  simp at hr1
  obtain ⟨rfl,rfl,rfl⟩:=hr1
  obtain ⟨_,hcase⟩:=hw.row r s e f [] hHr
  rcases hcase with ⟨q,e',f',hq,hS,he,_⟩|⟨hq,_,_⟩
  ·rw[hren] at hq
   injection hq with hq
   injection hq with hq
   subst hq
   obtain ⟨h1,h2⟩:=hr.2 s e' [] (row_rowIn hS) (presTrue_nil ρ)
   rw[headHv_row hHr hren]
   have hbe:=(hbs r _ hHr).2
   simp only[LB.bd] at hbe
   refine ⟨h1,?_⟩
   rcases hlen with hlen|hlen
   ·rw[hev n hx,hev e hbe,hlen,he]
    exact h2
   ·unfold isLen at hlen
    rw[hH] at hlen
    simp at hlen
    rw[hlen]
    simp[E.eval]
  ·rw[hren] at hq;simp at hq
 ·rename_i r n s
  simp only[Bool.and_eq_true,decide_eq_true_eq] at h
  obtain ⟨hren,hs,hlen⟩:=h
  cases hH:rowAt H r with
  |none=>rw[hH] at hs;simp at hs
  |some y=>
   obtain ⟨s',e,f⟩:=y
   rw[hH] at hs
   simp at hs
   subst hs
   have hHr:=rowAt_in hH
   refine ⟨⟨_,hHr,by simp⟩,fun s1 e1 p1 hr1 _=>?_⟩
   rw[row_rowIn hHr] at hr1
   simp at hr1
   obtain ⟨rfl,rfl,rfl⟩:=hr1
   rw[headHv_nil hHr hren]
   obtain ⟨vs,h1,h2,h3⟩:=hr
   simp only[Exact] at h3
   subst h3
   refine ⟨by rw[h2];simp[Sh.mk,Sh.isAgg],?_⟩
   unfold isLen at hlen
   rw[hH] at hlen
   simp at hlen
   rw[hlen]
   simp[E.eval]
 ·rename_i r off n r' off' n'
  simp only[Bool.and_eq_true,decide_eq_true_eq,Option.isSome_iff_exists] at h
  obtain ⟨⟨⟨⟨s,e,f⟩,hH⟩,hren⟩,hoff,hn⟩:=h
  have hHr:=rowAt_in hH
  simp only[SX.bd,Bool.and_eq_true] at hx
  refine ⟨⟨_,hHr,by simp⟩,fun s1 e1 p1 hr1 _=>?_⟩
  rw[row_rowIn hHr] at hr1
  simp at hr1
  obtain ⟨rfl,rfl,rfl⟩:=hr1
  obtain ⟨_,hcase⟩:=hw.row r s e f [] hHr
  rcases hcase with ⟨q,e',f',hq,hS,he,_⟩|⟨hq,_,_⟩
  ·rw[hren] at hq
   injection hq with hq
   injection hq with hq
   subst hq
   have h1:=hr.2 s e' [] (row_rowIn hS) (presTrue_nil ρ)
   rw[headHv_row hHr hren]
   have hbe:=(hbs r _ hHr).2
   simp only[LB.bd] at hbe
   rw[hev off hx.1,hev n hx.2,hev e hbe,hoff,hn,he]
   exact h1
  ·rw[hren] at hq;simp at hq
 ·rename_i r i fo s fld r' i' fo' s' fld'
  simp only[Bool.and_eq_true,decide_eq_true_eq,Option.isSome_iff_exists] at h
  obtain ⟨⟨rfl,⟨cs,f⟩,hH⟩,hi,rfl,rfl,rfl⟩:=h
  have hHr:=boxAt_in hH
  refine ⟨⟨_,hHr,by simp⟩,fun es1 e1 p1 hr1 _=>?_,fun cs1 p1 hr1 _=>?_⟩
  ·obtain ⟨f1,hf1⟩:=rowIn_row hr1
   rw[hHr] at hf1
   simp at hf1
  ·obtain ⟨_,cs',f',hS,_,_⟩:=hw.box r cs f [] hHr
   rw[headHv_box hHr]
   exact hr.2.2 cs' [] (box_boxIn hS) (presTrue_nil ρ)
 ·rename_i f f'
  simp only[decide_eq_true_eq] at h
  subst h
  exact hr
 ·simp only[Bool.and_eq_true,decide_eq_true_eq] at h
  obtain ⟨rfl,rfl,rfl⟩:=h
  exact hr
 ·simp only[Bool.and_eq_true,decide_eq_true_eq,Option.isSome_iff_exists] at h
  obtain ⟨rfl,⟨k,s,e,f⟩,hH⟩:=h
  have hHr:=mapAt_in hH
  exact ⟨⟨_,hHr,by simp⟩,by rw[headHv_obj hHr (by simp)];exact hr.2⟩
 ·simp only[Bool.and_eq_true,decide_eq_true_eq,Option.isSome_iff_exists] at h
  obtain ⟨rfl,⟨s,e,f⟩,hH⟩:=h
  have hHr:=sitAt_in hH
  exact ⟨⟨_,hHr,by simp⟩,by rw[headHv_obj hHr (by simp)];exact hr.2⟩
 ·simp at h
theorem weakXs_sound (hw:Weak base es π H S) (hb:base≤ρ.length) (hbd:H.bd (base+es.length)=true) {N:Nat→Prop}:∀ {l m:List SX} {vs:List Value},l.all (·.bd (base+es.length))=true→
  weakXs base es π H l m=true→RdXs w N ρ S.blks hv m vs→RdXs w N (ρ.take base++es.map (·.eval ρ)) H.blks (headHv π H hv) l vs
 | [],[],_,_,_,hr=>hr
 | [],_::_,_,_,h,_=>by simp[weakXs] at h
 |_::_,[],_,_,h,_=>by simp[weakXs] at h
 |x::l,y::m,_,hl,h,⟨v,r,h1,h2,h3⟩=>by
  simp only[weakXs,Bool.and_eq_true] at h
  simp only[List.all_cons,Bool.and_eq_true] at hl
  exact ⟨v,r,h1,weakX_sound hw hb hbd hl.1 h.1 h2,weakXs_sound hw hb hbd hl.2 h.2 h3⟩
/-- At a loop's head. -/
theorem weak_sound (hrel : RelH P N0 w0 ρ S hv a w) (hok : weakOk base es π H S = true) (hb : base ≤ ρ.length) (hbd : H.bd (base + es.length) = true) :
    RelH P N0 w0 (ρ.take base ++ es.map (·.eval ρ)) H (headHv π H hv) a w := by
  have hw := weak_of hok
  have hbs := SS.bd_blks hbd
  have hev : ∀ e : E, e.bd (base + es.length) = true → e.eval (ρ.take base ++ es.map (·.eval ρ)) = (e.subst base es).eval ρ := fun e he => E.eval_subst hb e he
  -- a live block of the head is a live block here
  have live : ∀ r k g, H.blks[r]? = some k → liveB k = true → blkNo (headHv π H hv r) = some g →
      ∃ q k', S.blks[q]? = some k' ∧ liveB k' = true ∧ k'.pres = [] ∧ blkNo (hv q) = some g ∧ (k.froz = false → k'.froz = false) ∧ ((∃ s e, k.lb = .row s e) → ren π r = some (some q) ∧ ∃ s e, k'.lb = .row s e) ∧ ((∀ s e, k.lb ≠ .row s e) → q = r ∧ ∀ s e, k'.lb ≠ .row s e) := by
    intro r k g hk hl hg
    obtain ⟨lb, f, p⟩ := k
    cases lb with
    | none => cases hl
    | dead => cases hl
    | row s e =>
      obtain ⟨rfl, hcase⟩ := hw.row r s e f p hk
      rcases hcase with ⟨q, e', f', hq, hS, he, hf⟩ | ⟨hq, _, _⟩
      · rw [headHv_row hk hq] at hg
        exact ⟨q, _, hS, rfl, rfl, hg, hf, fun _ => ⟨hq, s, e', rfl⟩, fun h => absurd rfl (h s e)⟩
      · rw [headHv_nil hk hq] at hg; cases hg
    | box cs =>
      obtain ⟨rfl, cs', f', hS, hf, _⟩ := hw.box r cs f p hk
      rw [headHv_box hk] at hg
      exact ⟨r, _, hS, rfl, rfl, hg, hf, fun ⟨_, _, h⟩ => (by cases h), fun _ => ⟨rfl, by simp⟩⟩
    | mp k s e =>
      obtain ⟨rfl, e', f', hS, hf, _⟩ := hw.mp r k s e f p hk
      rw [headHv_obj hk (by simp)] at hg
      exact ⟨r, _, hS, rfl, rfl, hg, hf, fun ⟨_, _, h⟩ => (by cases h), fun _ => ⟨rfl, by simp⟩⟩
    | sit s q =>
      obtain ⟨rfl, s', q', f', hS, hf, _⟩ := hw.sit r s q f p hk
      rw [headHv_obj hk (by simp)] at hg
      exact ⟨r, _, hS, rfl, rfl, hg, hf, fun ⟨_, _, h⟩ => (by cases h), fun _ => ⟨rfl, by simp⟩⟩
  have hNN : ∀ b, NN N0 w0.own ρ S.blks hv b → NN N0 w0.own (ρ.take base ++ es.map (·.eval ρ)) H.blks (headHv π H hv) b := by
    intro b hbn
    refine ⟨hbn.1, fun r k hk hl hf hp hg => ?_⟩
    obtain ⟨q, k', h1, h2, h3, h4, h5, _, _⟩ := live r k b hk hl hg
    exact hbn.2 q k' h1 h2 (h5 hf) (by rw [h3]; exact presTrue_nil ρ) h4
  have hk : ∀ b, NN N0 w0.own ρ S.blks hv b → b < w.heap.size → w.heap[b]? = w.heap[b]? ∧ NN N0 w0.own (ρ.take base ++ es.map (·.eval ρ)) H.blks (headHv π H hv) b := fun b h _ => ⟨rfl, hNN b h⟩
  have monoX : ∀ {x : SX} {v : Value}, RdX w (NN N0 w0.own ρ S.blks hv) ρ S.blks hv x v → RdX w (NN N0 w0.own (ρ.take base ++ es.map (·.eval ρ)) H.blks (headHv π H hv)) ρ S.blks hv x v :=
    fun h => h.le (Nat.le_refl _) hk (BsLe.refl _ _ _)
  refine ⟨hrel.defers, by rw [hrel.tsz, hw.len], hrel.below, fun t x ht hp => ?_, fun t x ht hp => ?_, fun r k hr hp => ?_, fun r r' k k' g hr hr' hne hl hl' hp hp' hg hg' => ?_⟩
  · obtain ⟨_, h1⟩ := hw.tmps t x ht
    rcases h1 with h1 | ⟨y, hy, hyp, h1⟩
    · rw [h1]; trivial
    · exact weakX_sound hw hb hbd (SS.bd_tmps hbd ht).2 h1 (monoX (hrel.tmps t y hy (by rw [hyp]; exact presTrue_nil ρ)))
  · exact absurd (by rw [(hw.tmps t x ht).1]; exact presTrue_nil _) hp
  · obtain ⟨lb, f, p⟩ := k
    cases lb with
    | none => trivial
    | dead => trivial
    | row s e =>
      obtain ⟨rfl, hcase⟩ := hw.row r s e f p hr
      have hbe := (hbs r _ hr).2
      simp only [LB.bd] at hbe
      rcases hcase with ⟨q, e', f', hq, hS, he, _⟩ | ⟨hq, he, h0⟩
      · obtain ⟨et, xs, h1, h2, h3⟩ := hrel.blks q _ hS (presTrue_nil ρ)
        refine ⟨et, xs, ?_, ?_, h3⟩
        · rw [headHv_row hr hq, hev e hbe, he]; exact h1
        · rw [hev e hbe, he]; exact h2.mono (Nat.le_refl _) hk
      · refine ⟨0, [], ?_, ?_, by omega⟩
        · rw [headHv_nil hr hq, hev e hbe, he]
          exact ⟨by simp [E.eval], .inl ⟨rfl, by simp [E.eval]⟩⟩
        · rw [hev e hbe, he]; simp [E.eval, RdRow]
    | box cs =>
      obtain ⟨rfl, cs', f', hS, _, hx⟩ := hw.box r cs f p hr
      obtain ⟨g, bt, arr, h1, h2, h3, h4⟩ := hrel.blks r _ hS (presTrue_nil ρ)
      have hbe := (hbs r _ hr).2
      simp only [LB.bd] at hbe
      refine ⟨g, bt, arr, by rw [headHv_box hr]; exact h1, h2, h3, weakXs_sound hw hb hbd hbe hx (h4.le (Nat.le_refl _) hk (BsLe.refl _ _ _))⟩
    | mp k s e =>
      obtain ⟨rfl, e', f', hS, _, he⟩ := hw.mp r k s e f p hr
      obtain ⟨g, l, h1, h2, h3, h4⟩ := hrel.blks r _ hS (presTrue_nil ρ)
      have hbe := (hbs r _ hr).2
      simp only [LB.bd] at hbe
      refine ⟨g, l, by rw [headHv_obj hr (by simp)]; exact h1, h2, h3, ?_⟩
      rw [hev e hbe, he]
      exact h4.imp fun _ _ h => h.mono (Nat.le_refl _) hk
    | sit s q =>
      obtain ⟨rfl, s', q', f', hS, _, he, he'⟩ := hw.sit r s q f p hr
      obtain ⟨g, n, h1, h2, h3, h4⟩ := hrel.blks r _ hS (presTrue_nil ρ)
      have hbe := (hbs r _ hr).2
      simp only [LB.bd, Bool.and_eq_true] at hbe
      refine ⟨g, n, by rw [headHv_obj hr (by simp)]; exact h1, h2, ?_, ?_⟩
      · rw [hev q hbe.2, he']; exact h3
      · rw [hev s hbe.1, he]; exact h4
  · obtain ⟨q, k1, a1, a2, a3, a4, _, a6, a7⟩ := live r k g hr hl hg
    obtain ⟨q', k1', b1, b2, b3, b4, _, b6, b7⟩ := live r' k' g hr' hl' hg'
    refine hrel.dist q q' k1 k1' g a1 b1 ?_ a2 b2 (by rw [a3]; exact presTrue_nil ρ) (by rw [b3]; exact presTrue_nil ρ) a4 b4
    intro e
    subst e
    rw [a1] at b1
    injection b1 with b1
    subst b1
    by_cases h1 : ∃ s e, k.lb = .row s e
    · by_cases h2 : ∃ s e, k'.lb = .row s e
      · exact hne (hw.inj (a6 h1).1 (b6 h2).1)
      · obtain ⟨_, s1, e1, e2⟩ := a6 h1
        exact (b7 (fun s e h => h2 ⟨s, e, h⟩)).2 _ _ e2
    · have a8 := a7 fun s e h => h1 ⟨s, e, h⟩
      by_cases h2 : ∃ s e, k'.lb = .row s e
      · obtain ⟨_, s1, e1, e2⟩ := b6 h2
        exact a8.2 _ _ e2
      · exact hne (a8.1.symm.trans (b7 fun s e h => h2 ⟨s, e, h⟩).1)
end
end Go.Vc

namespace Go.Vc
section
variable {P:Program} {cfg:Cfg} {N0:Nat→Prop} {w0:Wb} {ρ:List C} {S M:SS} {hv:Nat→Value} {a:Act} {w:World} {Q:Exit→Act→World→Prop}
def LikeX (ρ:List C) (x m:SX):Prop:=m=x∨∃s e e',x= .dat s e∧m= .dat s e'∧e'.eval ρ=e.eval ρ∧∀vs,Exact s e' vs
inductive LikeXs (ρ:List C):List SX→List SX→Prop
 |nil:LikeXs ρ [] []
 |cons {x m:SX} {l k:List SX}:LikeX ρ x m→LikeXs ρ l k→LikeXs ρ (x::l) (m::k)
theorem LikeXs.refl:∀l:List SX,LikeXs ρ l l
 | []=> .nil
 |_::l=> .cons (.inl rfl) (LikeXs.refl l)
def LikeB (ρ:List C) (k0 k:Blk):Prop:=k=k0∨∃cs0 cs f,k0=⟨.box cs0,f,[]⟩∧k=⟨.box cs,f,[]⟩∧LikeXs ρ cs0 cs
structure Like (ρ:List C) (S M:SS):Prop where
 len:M.tmps.length=S.tmps.length
 tmps:∀(t:Nat) (m:TS),M.tmps[t]?=some m→m.pres=[]∧(m.sx= .none∨∃x,S.tmps[t]?=some x∧x.pres=[]∧LikeX ρ x.sx m.sx)
 fwd:∀(r:Nat) (k:Blk),S.blks[r]?=some k→∃k',M.blks[r]?=some k'∧LikeB ρ k k'
 bwd:∀(r:Nat) (k:Blk),M.blks[r]?=some k→∃k',S.blks[r]?=some k'∧LikeB ρ k' k
theorem LikeX.rd {N:Nat→Prop} {bs:List Blk} {x m:SX} {v:Value} (h:LikeX ρ x m) (hr:RdX w N ρ bs hv x v):RdX w N ρ bs hv m v:=by
 rcases h with rfl|⟨s,e,e',rfl,rfl,h1,h2⟩
 ·exact hr
 ·obtain ⟨vs,h3,h4,_⟩:=hr
  exact ⟨vs,by rw[h1];exact h3,h4,h2 vs⟩
theorem LikeXs.rd {N:Nat→Prop} {bs:List Blk}:∀ {l k:List SX} {vs:List Value},LikeXs ρ l k→RdXs w N ρ bs hv l vs→RdXs w N ρ bs hv k vs
 | [],_,_,.nil,hr=>hr
 |_::_,_,_,.cons h1 h2,⟨v,r,e,h3,h4⟩=>⟨v,r,e,h1.rd h3,LikeXs.rd h2 h4⟩
theorem LikeB.same {k0 k:Blk} (h:LikeB ρ k0 k):liveB k=liveB k0∧k.froz=k0.froz∧k.pres=k0.pres∧(k0.lb≠ .none→k.lb≠ .none):=by
 rcases h with rfl|⟨cs0,cs,f,rfl,rfl,_⟩
 ·exact ⟨rfl,rfl,rfl,id⟩
 ·exact ⟨rfl,rfl,rfl,fun _=>by simp⟩
theorem Like.le (h:Like ρ S M):BsLe ρ S.blks M.blks hv hv:=by
 refine ⟨fun r ⟨k,h1,h2⟩=>⟨?_,rfl⟩,fun r s e p _ hr=>?_,fun r cs p _ hr=>?_⟩
 ·obtain ⟨k',h3,h4⟩:=h.fwd r k h1
  exact ⟨k',h3,h4.same.2.2.2 h2⟩
 ·obtain ⟨f,hf⟩:=rowIn_row hr
  obtain ⟨k',h3,h4⟩:=h.bwd r _ hf
  rcases h4 with h4|⟨_,_,_,_,h4,_⟩
  ·subst h4;exact ⟨e,row_rowIn h3,rfl⟩
  ·simp at h4
 ·obtain ⟨f,hf⟩:=boxIn_box hr
  obtain ⟨k',h3,h4⟩:=h.bwd r _ hf
  rcases h4 with h4|⟨cs0,_,f',h5,h4,_⟩
  ·subst h4;exact ⟨cs,box_boxIn h3⟩
  ·subst h5
   simp at h4
   obtain ⟨rfl,rfl,rfl⟩:=h4
   exact ⟨cs0,box_boxIn h3⟩
theorem Like.rel (h:Like ρ S M) (hrel:RelH P N0 w0 ρ S hv a w):RelH P N0 w0 ρ M hv a w:=by
 have hNN:∀b,NN N0 w0.own ρ S.blks hv b→NN N0 w0.own ρ M.blks hv b:=by
  intro b hb
  refine ⟨hb.1,fun r k hk hl hf hp=>?_⟩
  obtain ⟨k',h1,h2⟩:=h.bwd r k hk
  obtain ⟨e1,e2,e3,_⟩:=h2.same
  exact hb.2 r k' h1 (by rw[←e1];exact hl) (by rw[←e2];exact hf) (by rw[←e3];exact hp)
 have hk:∀b,NN N0 w0.own ρ S.blks hv b→b<w.heap.size→w.heap[b]?=w.heap[b]?∧NN N0 w0.own ρ M.blks hv b:=fun b hb _=>⟨rfl,hNN b hb⟩
 refine ⟨hrel.defers,by rw[hrel.tsz,h.len],hrel.below,fun t m ht hp=>?_,fun t m ht hp=>?_,fun r k hr hp=>?_,fun r r' k k' g hr hr' hne hl hl' hp hp'=>?_⟩
 ·obtain ⟨_,h1⟩:=h.tmps t m ht
  rcases h1 with h1|⟨x,hx,hxp,h1⟩
  ·rw[h1];trivial
  ·exact h1.rd ((hrel.tmps t x hx (by rw[hxp];exact presTrue_nil ρ)).le (Nat.le_refl _) hk h.le)
 ·exact absurd (by rw[(h.tmps t m ht).1];exact presTrue_nil _) hp
 ·obtain ⟨k',h1,h2⟩:=h.bwd r k hr
  obtain ⟨e1,e2,e3,_⟩:=h2.same
  have h3:=(hrel.blks r k' h1 (by rw[←e3];exact hp)).le (Nat.le_refl _) hk (h.le (hv:=hv)) rfl fun _ _=>rfl
  rcases h2 with h2|⟨cs0,cs,f,h4,h5,h6⟩
  ·subst h2;exact h3
  ·subst h4 h5
   obtain ⟨g,bt,arr,i1,i2,i3,i4⟩:=h3
   exact ⟨g,bt,arr,i1,i2,i3,h6.rd i4⟩
 ·obtain ⟨k1,h1,h2⟩:=h.bwd r k hr
  obtain ⟨k2,h3,h4⟩:=h.bwd r' k' hr'
  obtain ⟨e1,_,e3,_⟩:=h2.same
  obtain ⟨e1',_,e3',_⟩:=h4.same
  exact hrel.dist r r' k1 k2 g h1 h3 hne (by rw[←e1];exact hl) (by rw[←e1'];exact hl') (by rw[←e3];exact hp) (by rw[←e3'];exact hp')
theorem ite_like {c e e':E} {s:Sh}:(∀vs,Exact s (.ite c e e') vs):=Exact_leaf (by simp) (by simp)
theorem mergeX_like {c:E} {b:Bool} (hc:(c.eval ρ).toBool=b) (x y:SX):mergeX c x y= .none∨LikeX ρ (if b then x else y) (mergeX c x y):=by
 unfold mergeX
 split
 ·rename_i s e s' e'
  split
  ·rename_i hs
   subst hs
   split
   ·rename_i he;subst he;right;left;cases b<;>rfl
   ·right;right
    cases b
    ·exact ⟨s,e',_,rfl,rfl,by simp[E.eval,hc],ite_like⟩
    ·exact ⟨s,e,_,rfl,rfl,by simp[E.eval,hc],ite_like⟩
  ·exact .inl rfl
 ·split
  ·rename_i h;subst h;right;left;cases b<;>rfl
  ·exact .inl rfl
theorem mergeTs_like {c:E} {b:Bool} (hc:(c.eval ρ).toBool=b):∀ {l m:List TS},l.length=m.length→(mergeTs c l m).length=l.length∧∀ {t:Nat} {z:TS},(mergeTs c l m)[t]?=some z→
  z.pres=[]∧(z.sx= .none∨∃x,(if b then l else m)[t]?=some x∧x.pres=[]∧LikeX ρ x.sx z.sx)
 | [],[],_=>⟨rfl,fun h=>by simp[mergeTs] at h⟩
 | [],_::_,h=>by simp at h
 |_::_,[],h=>by simp at h
 |x::l,y::m,h=>by
  obtain ⟨h1,h2⟩:=mergeTs_like hc (l:=l) (m:=m) (by simpa using h)
  refine ⟨by simp[mergeTs,h1],fun {t z} hz=>?_⟩
  cases t with
  |zero=>
   simp only[mergeTs,List.getElem?_cons_zero,Option.some.injEq] at hz
   split at hz
   ·rename_i hp
    subst hz
    refine ⟨rfl,?_⟩
    rcases mergeX_like hc x.sx y.sx with h3|h3
    ·exact .inl h3
    ·right
     cases b
     ·exact ⟨y,rfl,hp.2,h3⟩
     ·exact ⟨x,rfl,hp.1,h3⟩
   ·subst hz;exact ⟨rfl,.inl rfl⟩
  |succ t=>
   have:=h2 (t:=t) (z:=z) (by simpa [mergeTs] using hz)
   cases b<;>simpa using this
theorem mergeCs_like {c:E} {b:Bool} (hc:(c.eval ρ).toBool=b):∀ {l m r:List SX},mergeCs c l m=some r→LikeXs ρ (if b then l else m) r
 | [],[],r,h=>by simp[mergeCs] at h;subst h;cases b<;>exact .nil
 | [],_::_,_,h=>by simp[mergeCs] at h
 |_::_,[],_,h=>by simp[mergeCs] at h
 |x::l,y::m,r,h=>by
  simp only[mergeCs] at h
  split at h
  ·rename_i r' hr
   have ih:=mergeCs_like hc hr
   split at h
   ·rename_i he
    subst he
    simp at h
    subst h
    cases b<;>exact .cons (.inl rfl) ih
   ·split at h
    ·rename_i s e s' e' _
     split at h
     ·rename_i hs
      subst hs
      simp at h
      subst h
      cases b
      ·exact .cons (.inr ⟨s,e',_,rfl,rfl,by simp[E.eval,hc],ite_like⟩) ih
      ·exact .cons (.inr ⟨s,e,_,rfl,rfl,by simp[E.eval,hc],ite_like⟩) ih
     ·simp at h
    ·simp at h
  ·simp at h
theorem mergeB_like {c:E} {b:Bool} (hc:(c.eval ρ).toBool=b) {x y k:Blk} (h:mergeB c x y=some k):LikeB ρ (if b then x else y) k:=by
 unfold mergeB at h
 split at h
 ·rename_i he;subst he;simp at h;subst h;cases b<;>exact .inl rfl
 ·split at h
  ·rename_i cs f cs' f' _
   split at h
   ·rename_i hf
    subst hf
    split at h
    ·rename_i r hr
     simp at h
     subst h
     have:=mergeCs_like hc hr
     cases b
     ·exact .inr ⟨cs',r,f,rfl,rfl,this⟩
     ·exact .inr ⟨cs,r,f,rfl,rfl,this⟩
    ·simp at h
   ·simp at h
  ·simp at h
theorem mergeBs_like {c:E} {b:Bool} (hc:(c.eval ρ).toBool=b):∀ {l m bs:List Blk},mergeBs c l m=some bs→bs.length=(if b then l else m).length∧
  ∀(r:Nat) (k:Blk),bs[r]?=some k→∃k',(if b then l else m)[r]?=some k'∧LikeB ρ k' k
 | [],[],bs,h=>by simp[mergeBs] at h;subst h;cases b<;>exact ⟨rfl,fun r k hk=>by simp at hk⟩
 | [],_::_,_,h=>by simp[mergeBs] at h
 |_::_,[],_,h=>by simp[mergeBs] at h
 |x::l,y::m,bs,h=>by
  simp only[mergeBs] at h
  split at h
  ·rename_i k' r' h1 h2
   simp at h
   subst h
   obtain ⟨i1,i2⟩:=mergeBs_like hc h2
   refine ⟨by cases b<;>simpa using i1,fun r k hk=>?_⟩
   cases r with
   |zero=>
    simp at hk
    subst hk
    have:=mergeB_like hc h1
    cases b
    ·exact ⟨y,rfl,this⟩
    ·exact ⟨x,rfl,this⟩
   |succ r=>
    have:=i2 r k (by simpa using hk)
    cases b<;>simpa using this
  ·simp at h
theorem mergeS_like {c:E} {b:Bool} (hc:(c.eval ρ).toBool=b) {S1 S2:SS} (h:mergeS c S1 S2=some M):Like ρ (if b then S1 else S2) M∧M.nv=S1.nv:=by
 unfold mergeS at h
 split at h
 ·rename_i hl
  split at h
  ·rename_i bs hb
   simp at h
   subst h
   obtain ⟨t1,t2⟩:=mergeTs_like hc hl.1
   obtain ⟨b1,b2⟩:=mergeBs_like hc hb
   have fwd:∀(r:Nat) (k:Blk),(if b then S1 else S2).blks[r]?=some k→∃k',bs[r]?=some k'∧LikeB ρ k k':=by
    intro r k hk
    have hlt:r<bs.length:=by
     rw[b1]
     have:=(List.getElem?_eq_some_iff.1 hk).1
     cases b<;>exact this
    obtain ⟨k',h1,h2⟩:=b2 r bs[r] (by simp[hlt])
    have:k'=k:=by
     have e:(if b then S1.blks else S2.blks)[r]?=some k:=by cases b<;>exact hk
     rw[e] at h1
     injection h1 with h1
     exact h1.symm
    subst this
    exact ⟨bs[r],by simp[hlt],h2⟩
   refine ⟨⟨?_,fun t m ht=>?_,fwd,fun r k hk=>?_⟩,rfl⟩
   ·cases b
    ·exact t1.trans hl.1
    ·exact t1
   ·have:=t2 ht
    cases b<;>exact this
   ·have:=b2 r k hk
    cases b<;>exact this
  ·simp at h
 ·simp at h
theorem under_vars (p:Pres) (o:Ob):(o.under p).vars=o.vars:=by cases o<;>rfl
theorem under_hold {p:Pres} (hp:presTrue ρ p):∀ {l:List Ob} {nv:Nat},obsHold P ρ nv (l.map (Ob.under p))→obsHold P ρ nv l
 | [],_,_=>trivial
 |o::l,nv,h=>by
  obtain ⟨h1,h2⟩:=h
  rw[under_vars] at h2
  refine ⟨?_,under_hold hp h2⟩
  cases o with
  |asrt q e=>exact fun hq=>h1 (presTrue_app.2 ⟨hp,hq⟩)
  |call q f args rets=>exact fun hq=>h1 (presTrue_app.2 ⟨hp,hq⟩)
theorem prun_nv:∀ {c:Code} {S M:SS} {obs:List Ob},prun P cfg c S=some (M,obs)→M.nv=S.nv∧obVars obs=0
 | .skip,S,M,obs,h=>by simp[prun] at h;obtain ⟨rfl,rfl⟩:=h;exact ⟨rfl,rfl⟩
 | .region _ ops draw,S,M,obs,h=>by
  simp only[prun] at h
  split at h
  ·simp at h
  ·split at h
   ·rename_i S' ob hr
    split at h
    ·rename_i hn
     simp at h
     obtain ⟨rfl,rfl⟩:=h
     have:=runOps_nv hr
     exact ⟨hn,by omega⟩
    ·simp at h
   ·simp at h
 | .seq x y,S,M,obs,h=>by
  simp only[prun] at h
  split at h
  ·rename_i h1
   split at h
   ·rename_i h2
    simp at h
    obtain ⟨rfl,rfl⟩:=h
    obtain ⟨e1,e2⟩:=prun_nv h1
    obtain ⟨e3,e4⟩:=prun_nv h2
    simp only[obVars,List.map_append,List.sum_append] at*
    exact ⟨by omega,by omega⟩
   ·simp at h
  ·simp at h
 | .cond c x y,S,M,obs,h=>by
  simp only[prun] at h
  split at h
  ·rename_i e he
   split at h
   ·rename_i h1 h2
    split at h
    ·rename_i M' hm
     simp at h
     obtain ⟨rfl,rfl⟩:=h
     obtain ⟨e1,e2⟩:=prun_nv h1
     obtain ⟨e3,e4⟩:=prun_nv h2
     have hu:∀(p:Pres) (l:List Ob),((l.map (Ob.under p)).map Ob.vars).sum=(l.map Ob.vars).sum:=by
      intro p l
      rw[List.map_map]
      congr 1
      exact List.map_congr_left fun o _=>under_vars p o
     have hnv:M'.nv=_:=(mergeS_like (ρ:=[]) (c:=e) rfl hm).2
     simp only[obVars,List.map_append,List.sum_append,hu] at*
     exact ⟨by omega,by omega⟩
    ·simp at h
   ·simp at h
  ·simp at h
 | .block ..,_,_,_,h| .exit _,_,_,_,h| .ret,_,_,_,h| .loop _,_,_,_,h| .scope ..,_,_,_,h| .label _,_,_,_,h| .goto _,_,_,_,h=>by simp[prun] at h
theorem prun_sound:∀ {c:Code} {S M:SS} {obs:List Ob} {hv:Nat→Value} {a:Act} {w:World} {Q:Exit→Act→World→Prop},RelH P N0 w0 ρ S hv a w→prun P cfg c S=some (M,obs)→obsHold P ρ S.nv obs→
  (∀a' w',(∃hv',RelH P N0 w0 ρ M hv' a' w')→Q .normal a' w')→c.wp P Q a w
 | .skip,S,M,obs,hv,a,w,Q,hrel,h,_,hq=>by simp[prun] at h;obtain ⟨rfl,rfl⟩:=h;exact wp_skip (hq _ _ ⟨hv,hrel⟩)
 | .region _ ops draw,S,M,obs,hv,a,w,Q,hrel,h,ho,hq=>by
  simp only[prun] at h
  split at h
  ·simp at h
  ·rename_i hd
   split at h
   ·rename_i S' ob hr
    split at h
    ·simp at h
     obtain ⟨rfl,rfl⟩:=h
     exact region_sound hrel (by simpa using hd) hr ho hq
    ·simp at h
   ·simp at h
 | .seq x y,S,M,obs,hv,a,w,Q,hrel,h,ho,hq=>by
  simp only[prun] at h
  split at h
  ·rename_i S1 o1 h1
   split at h
   ·rename_i S2 o2 h2
    simp at h
    obtain ⟨rfl,rfl⟩:=h
    obtain ⟨e1,e2⟩:=prun_nv h1
    rw[obsHold_app] at ho
    refine wp_seq (prun_sound hrel h1 ho.1 fun a' w' ⟨hv',hr'⟩=>?_)
    refine prun_sound hr' h2 ?_ hq
    have:=ho.2
    simp only[obVars] at e2
    rw[e2,Nat.add_zero] at this
    rw[e1]
    exact this
   ·simp at h
  ·simp at h
 | .cond c x y,S,M,obs,hv,a,w,Q,hrel,h,ho,hq=>by
  simp only[prun] at h
  split at h
  ·rename_i e he
   split at h
   ·rename_i S1 o1 S2 o2 h1 h2
    split at h
    ·rename_i M' hm
     simp at h
     obtain ⟨rfl,rfl⟩:=h
     have hc:=ev_sound hrel (presTrue_nil ρ) he
     rw[RdX_bool] at hc
     rw[obsHold_app] at ho
     obtain ⟨e1,e2⟩:=prun_nv h1
     have hu:((o1.map (Ob.under [(e,true)])).map Ob.vars).sum=0:=by
      rw[List.map_map]
      simp only[obVars] at e2
      rw[←e2]
      congr 1
      exact List.map_congr_left fun o _=>under_vars _ o
     refine wp_cond_split hc (fun ht=>?_) (fun hf=>?_)
     ·refine prun_sound hrel h1 (under_hold (presTrue_one.2 ht) ho.1) fun a' w' ⟨hv',hr'⟩=>hq a' w' ⟨hv',?_⟩
      exact (mergeS_like ht hm).1.rel hr'
     ·have h3:=ho.2
      rw[hu,Nat.add_zero] at h3
      refine prun_sound hrel h2 (under_hold (presTrue_one.2 hf) h3) fun a' w' ⟨hv',hr'⟩=>hq a' w' ⟨hv',?_⟩
      exact (mergeS_like hf hm).1.rel hr'
    ·simp at h
   ·simp at h
  ·simp at h
 | .block ..,_,_,_,_,_,_,_,_,h,_,_| .exit _,_,_,_,_,_,_,_,_,h,_,_| .ret,_,_,_,_,_,_,_,_,h,_,_| .loop _,_,_,_,_,_,_,_,_,h,_,_
 | .scope ..,_,_,_,_,_,_,_,_,h,_,_| .label _,_,_,_,_,_,_,_,_,h,_,_| .goto _,_,_,_,_,_,_,_,_,h,_,_=>by simp[prun] at h
end
end Go.Vc

namespace Go.Vc
section
variable {P:Program} {cfg:Cfg} {hints:List Hint} {N0:Nat→Prop} {w0:Wb} {Post:List (Sh×C)→Prop}
def XE.toExit:XE→Exit
 | .normal=> .normal
 | .exit id=> .exit id
 | .ret=> .ret
/-- What holds where code is left. -/
def Goes (P:Program) (N0:Nat→Prop) (w0:Wb) (Post:List (Sh×C)→Prop) (K:XE→SS→Nat→VC) (Q:Exit→Act→World→Prop) (ρ:List C) (Bs:List (List C→Prop)):Prop:=
 ∀e S' l' ρ' Bs' hv' a' w',ρ<+:ρ'→Bs<+:Bs'→Bs'.length=l'→ρ'.length=S'.nv→RelH P N0 w0 ρ' S' hv' a' w'→(K e S' l').holds P Post Bs' ρ'→Q e.toExit a' w'
theorem Goes.mono {K:XE→SS→Nat→VC} {Q:Exit→Act→World→Prop} {ρ ρ':List C} {Bs Bs':List (List C→Prop)} (h:Goes P N0 w0 Post K Q ρ Bs) (h1:ρ<+:ρ') (h2:Bs<+:Bs'):Goes P N0 w0 Post K Q ρ' Bs':=
 fun e S' l' ρ2 Bs2 hv' a' w' g1 g2=>h e S' l' ρ2 Bs2 hv' a' w' (h1.trans g1) (h2.trans g2)
theorem prefix_take {α:Type} {l m:List α} (h:l<+:m):m.take l.length=l:=by
 obtain ⟨t,rfl⟩:=h
 simp
theorem prefix_getD {Bs Bs':List (List C→Prop)} {x d:List C→Prop} (h:Bs++ [x]<+:Bs'):Bs'.getD Bs.length d=x:=by
 obtain ⟨t,rfl⟩:=h
 simp[List.getD]
theorem sx_sound:∀(c:Code) {S:SS} {l:Nat} {K:XE→SS→Nat→VC} {ρ:List C} {Bs:List (List C→Prop)} {hv:Nat→Value} {a:Act} {w:World} {Q:Exit→Act→World→Prop},
  RelH P N0 w0 ρ S hv a w→ρ.length=S.nv→Bs.length=l→(sx P cfg hints c S l K).holds P Post Bs ρ→Goes P N0 w0 Post K Q ρ Bs→c.wp P Q a w:=by
 intro c
 induction c with
 |skip=>
  intro S l K ρ Bs hv a w Q hrel hn hl h hq
  exact wp_skip (hq .normal S l ρ Bs hv a w (List.prefix_refl _) (List.prefix_refl _) hl hn hrel h)
 |region id ops draw=>
  intro S l K ρ Bs hv a w Q hrel hn hl h hq
  simp only[sx] at h
  split at h
  ·exact h.elim
  ·rename_i hd
   split at h
   ·rename_i S' obs hr
    split at h
    ·rename_i hb
     simp only[Bool.and_eq_true] at hb
     rw[←hn] at hb
     obtain ⟨σ,o1,o2,o3⟩:=obsVC_sound hb.2 h
     have hrel':=hrel.env (EnvEq.app ρ σ) hb.1
     have hnv:=runOps_nv hr
     refine region_sound2 hrel' (by simpa using hd) hr (by rw[←hn];exact o1) fun a' w' ⟨hv',hr'⟩=>?_
     exact hq .normal S' l (ρ++σ) Bs hv' a' w' (List.prefix_append _ _) (List.prefix_refl _) hl (by rw[List.length_append,o3,hnv,hn]) hr' o2
    ·exact h.elim
   ·exact h.elim
 |seq x y ihx ihy=>
  intro S l K ρ Bs hv a w Q hrel hn hl h hq
  simp only[sx] at h
  refine wp_seq (ihx hrel hn hl h fun e S' l' ρ' Bs' hv' a' w' g1 g2 g3 g4 g5 g6=>?_)
  cases e with
  |normal=>exact ihy g5 g4 g3 g6 (hq.mono g1 g2)
  |exit id=>exact hq (.exit id) S' l' ρ' Bs' hv' a' w' g1 g2 g3 g4 g5 g6
  |ret=>exact hq .ret S' l' ρ' Bs' hv' a' w' g1 g2 g3 g4 g5 g6
 |cond c x y ihx ihy=>
  intro S l K ρ Bs hv a w Q hrel hn hl h hq
  simp only[sx] at h
  split at h
  ·rename_i e he
   have hc:=ev_sound hrel (presTrue_nil ρ) he
   rw[RdX_bool] at hc
   split at h
   ·exact wp_cond_true (by simpa [E.eval] using hc) (ihx hrel hn hl h hq)
   ·exact wp_cond_false (by simpa [E.eval] using hc) (ihy hrel hn hl h hq)
   ·split at h
    ·rename_i M obs hp
     split at h
     ·rename_i hb
      simp only[Bool.and_eq_true] at hb
      rw[←hn] at hb
      obtain ⟨σ,o1,o2,o3⟩:=obsVC_sound hb.2 h
      have hrel':=hrel.env (EnvEq.app ρ σ) hb.1
      obtain ⟨e1,e2⟩:=prun_nv hp
      refine prun_sound hrel' hp (by rw[←hn];exact o1) fun a' w' ⟨hv',hr'⟩=>?_
      exact hq .normal M l (ρ++σ) Bs hv' a' w' (List.prefix_append _ _) (List.prefix_refl _) hl (by rw[List.length_append,o3,e2,e1,hn,Nat.add_zero]) hr' o2
     ·exact h.elim
    ·split at h
     ·generalize mkHead _ (writes (.cond c x y)) S=m at h
      obtain ⟨H,es,π⟩:=m
      simp only at h
      split at h
      ·rename_i hok
       simp only[Bool.and_eq_true,decide_eq_true_eq] at hok
       obtain ⟨hnv,hbH⟩:=hok
       obtain ⟨I,hbody,hrest⟩:=h
       rw[hnv] at hbH
       have land:∀(n:Nat) (e:XE) (S':SS) (l':Nat) (ρ':List C) (Bs':List (List C→Prop)) (hv':Nat→Value) (a':Act) (w':World),ρ<+:ρ'→Bs++ [I]<+:Bs'→Bs'.length=l'→ρ'.length=S'.nv→RelH P N0 w0 ρ' S' hv' a' w'→
         ((match e with
          | .normal=>match guess S.nv es.length H S' with
           |(es',π')=>if weakOk S.nv es' π' H S'&&es'.length=es.length then .back l es' else .fail n
          |e=>K e S' l':VC)).holds P Post Bs' ρ'→Q e.toExit a' w':=by
        intro n e S' l' ρ' Bs' hv' a' w' p1 g2 g3 g4 g5 g6
        have p2:Bs<+:Bs':=(List.prefix_append Bs _).trans g2
        cases e with
        |normal=>
         simp only at g6
         generalize guess S.nv es.length H S'=gs at g6
         obtain ⟨es',π'⟩:=gs
         simp only at g6
         split at g6
         ·rename_i hok'
          simp only[Bool.and_eq_true,decide_eq_true_eq] at hok'
          simp only[VC.holds] at g6
          rw[←hl,prefix_getD g2] at g6
          have hlen:S.nv≤ρ'.length:=by rw[←hn];exact p1.length_le
          have h2:=weak_sound g5 hok'.1 hlen (by rw[hok'.2];exact hbH)
          rw[←hn,prefix_take p1] at h2
          have hvs:(es'.map (·.eval ρ')).length=es.length:=by simp[hok'.2]
          exact hq .normal H l (ρ++es'.map (·.eval ρ')) Bs _ a' w' (List.prefix_append _ _) (List.prefix_refl _) hl (by rw[List.length_append,hvs,hnv,hn]) h2 (hrest _ hvs g6)
         ·exact g6.elim
        |exit id=>exact hq (.exit id) S' l' ρ' Bs' hv' a' w' p1 p2 g3 g4 g5 g6
        |ret=>exact hq .ret S' l' ρ' Bs' hv' a' w' p1 p2 g3 g4 g5 g6
       have hl1:(Bs++ [I]).length=l+1:=by rw[List.length_append,hl];rfl
       exact wp_cond_split hc (fun ht=>ihx hrel hn hl1 (hbody.1 ht) (land _)) (fun hf=>ihy hrel hn hl1 (hbody.2 hf) (land _))
      ·exact h.elim
     ·exact wp_cond_split hc (fun ht=>ihx hrel hn hl (h.1 ht) hq) (fun hf=>ihy hrel hn hl (h.2 hf) hq)
  ·rename_i e he
   obtain ⟨b,hb,hz⟩:=ev_sound hrel (presTrue_nil ρ) he
   exact wp_cond_split hb (fun ht=>ihx hrel hn hl (h.1 (hz ht)) hq) (fun hf=>ihy hrel hn hl h.2 hq)
  ·exact h.elim
 |block id c ih=>
  intro S l K ρ Bs hv a w Q hrel hn hl h hq
  simp only[sx] at h
  refine wp_block (ih hrel hn hl h fun e S' l' ρ' Bs' hv' a' w' g1 g2 g3 g4 g5 g6=>?_)
  cases e with
  |normal=>exact hq .normal S' l' ρ' Bs' hv' a' w' g1 g2 g3 g4 g5 g6
  |exit id'=>
   simp only[XE.toExit,Exit.inBlock]
   simp only at g6
   split at g6
   ·rename_i hid
    rw[if_pos hid]
    exact hq .normal S' l' ρ' Bs' hv' a' w' g1 g2 g3 g4 g5 g6
   ·rename_i hid
    rw[if_neg hid]
    exact hq (.exit id') S' l' ρ' Bs' hv' a' w' g1 g2 g3 g4 g5 g6
  |ret=>exact hq .ret S' l' ρ' Bs' hv' a' w' g1 g2 g3 g4 g5 g6
 |exit id=>
  intro S l K ρ Bs hv a w Q hrel hn hl h hq
  exact wp_exit (hq (.exit id) S l ρ Bs hv a w (List.prefix_refl _) (List.prefix_refl _) hl hn hrel h)
 |ret=>
  intro S l K ρ Bs hv a w Q hrel hn hl h hq
  exact wp_ret (hq .ret S l ρ Bs hv a w (List.prefix_refl _) (List.prefix_refl _) hl hn hrel h)
 |loop c ih=>
  intro S l K ρ Bs hv a w Q hrel hn hl h hq
  simp only[sx] at h
  generalize mkHead _ (writes c) S=m at h
  obtain ⟨H,es,π⟩:=m
  simp only at h
  split at h
  ·rename_i hok
   simp only[Bool.and_eq_true,decide_eq_true_eq] at hok
   obtain ⟨hw,hnv,hbH,hbS⟩:=hok
   obtain ⟨I,μ,h0,hstep⟩:=h
   rw[hnv] at hbH
   have h1:=weak_sound hrel hw (by omega) hbH
   have ht:ρ.take S.nv=ρ:=by rw[←hn];simp
   rw[ht] at h1
   refine wp_loop_ghost (fun n a w=>∃vs hv,vs.length=es.length∧I vs∧μ vs=n∧RelH P N0 w0 (ρ++vs) H hv a w) _ ⟨_,_,by simp,h0,rfl,h1⟩ ?_
   rintro n a1 w1 ⟨vs,hv1,hvs,hI,rfl,hr1⟩
   refine ih hr1 (by rw[List.length_append,hvs,hnv,hn]) (by rw[List.length_append,hl];rfl) (hstep vs hvs hI) fun e S' l' ρ' Bs' hv' a' w' g1 g2 g3 g4 g5 g6=>?_
   have p1:ρ<+:ρ':=(List.prefix_append ρ vs).trans g1
   have p2:Bs<+:Bs':=(List.prefix_append Bs _).trans g2
   cases e with
   |normal=>
    simp only at g6
    generalize guess S.nv es.length H S'=gs at g6
    obtain ⟨es',π'⟩:=gs
    simp only at g6
    split at g6
    ·rename_i hok'
     simp only[Bool.and_eq_true,decide_eq_true_eq] at hok'
     simp only[VC.holds] at g6
     rw[←hl,prefix_getD g2] at g6
     have hlen:S.nv≤ρ'.length:=by rw[←hn];exact p1.length_le
     have h2:=weak_sound g5 hok'.1 hlen (by rw[hok'.2];exact hbH)
     rw[←hn,prefix_take p1] at h2
     exact ⟨_,g6.2,_,_,by simp[hok'.2],g6.1,rfl,h2⟩
    ·exact g6.elim
   |exit id=>exact hq (.exit id) S' l' ρ' Bs' hv' a' w' p1 p2 g3 g4 g5 g6
   |ret=>exact hq .ret S' l' ρ' Bs' hv' a' w' p1 p2 g3 g4 g5 g6
  ·exact h.elim
 |_=>intro S l K ρ Bs hv a w Q hrel hn hl h hq;exact h.elim
end
end Go.Vc

namespace Go.Vc
open Go.RowKit
section
variable {P:Program} {cfg:Cfg} {hints:List Hint} {N0:Nat→Prop} {w0:Wb} {ρ:List C} {S:SS} {hv:Nat→Value} {a:Act} {w:World}
def Out0 (N0:Nat→Prop) (w0:Wb) (b:Nat):Prop:=N0 b∨w0.own b
theorem load_as {t:TypeId} {v u:Value} (h:(Instr.loadAt t v).run P w= .ok u w):(do loadVar t (←asAddr v):Sem Value).run P w= .ok u w:=by
 cases v with
 |pointer p=>
  cases p with
  |some b=>simpa [Instr.loadAt,Instr.sureAddr,asAddr] using h
  |none=>simp[Instr.loadAt,Instr.sureAddr,stuck] at h
 |_=>simp[Instr.loadAt,Instr.sureAddr,stuck] at h
theorem nf_out (hrel:RelH P N0 w0 ρ S hv a w) {f:List Nat} (hf:∀r∈f,LiveAt S.blks ρ r) {N:Nat→Prop} (hN:∀b,N b→Out0 N0 w0 b) {b:Nat} (h:NF N hv f b):Out0 N0 w0 b:=by
 rcases h with h|⟨r,hr,hg⟩
 ·exact hN b h
 ·obtain ⟨k,h3,hl,h2⟩:=hf r hr
  exact .inr (hrel.lt h3 hl h2 hg).2
theorem RelH.rowsOut (hrel:RelH P N0 w0 ρ S hv a w):RowsOk w w0.own (Out0 N0 w0) ρ S.blks hv:=by
 refine ⟨fun r s e p hr hp=>?_,fun r k s e p hr hp=>?_⟩
 ·obtain ⟨et,xs,h1,h2,h3⟩:=hrel.rows.row r s e p hr hp
  exact ⟨et,xs,h1,h2.mono (Nat.le_refl _) fun b hb _=>⟨rfl,hb.1⟩,h3⟩
 ·obtain ⟨g,l,h1,h2,h3,h4⟩:=hrel.rows.map r k s e p hr hp
  exact ⟨g,l,h1,h2,h3,h4.imp fun _ _ h=>h.mono (Nat.le_refl _) fun b hb _=>⟨rfl,hb.1⟩⟩
theorem dat_out (hrel:RelH P N0 w0 ρ S hv a w) {x:SX} {s:Sh} {e:E} {f:List Nat} {v:Value} (h:datOf S.rb [] x=some (s,e,f)) (hx:RdX w (Out0 N0 w0) ρ S.blks hv x v):
  RdV w (Out0 N0 w0) s v (e.eval ρ):=by
 have h1:=RdX_dat (datOf_sound hrel.rowsOut (presTrue_nil ρ) h hx)
 exact h1.mono (Nat.le_refl _) fun b hb _=>⟨rfl,nf_out hrel (datOf_rows (presTrue_nil ρ) h) (fun _ h=>h) hb⟩
def resOf (tmps:Array Value):ResultVar→Sem Value
 | .tmp t=>pure (tmps.getD t undef)
 | .cell b t=>do loadVar t (←asAddr (tmps.getD b undef))
/-- What a function hands back. -/
theorem retX_sound (hrel:RelH P N0 w0 ρ S hv a w):∀ {l:List ResultVar} {rs:List (Sh×E)},retX P S l=some rs→
  ∃vs,(l.mapM (resOf a.tmps)).run P w= .ok vs w∧RdVs w (Out0 N0 w0) (evalArgs ρ rs) vs
 | [],rs,h=>by
  simp[retX] at h
  subst h
  exact ⟨[],by simp,rfl⟩
 | .tmp t::l,rs,h=>by
  simp only[retX] at h
  split at h
  ·rename_i s e f r h1 h2
   simp at h
   subst h
   obtain ⟨vs,i1,i2⟩:=retX_sound hrel h2
   obtain ⟨x,hx,hd⟩:=Option.bind_eq_some_iff.1 h1
   have h3:=ev_sound hrel (presTrue_nil ρ) hx
   have h4:=dat_out hrel hd (h3.le (Nat.le_refl _) (fun b hb _=>⟨rfl,hb.1⟩) (BsLe.refl _ _ _))
   refine ⟨a.tmps.getD t undef::vs,by simp only[List.mapM_cons,resOf];simp[i1],_,_,rfl,?_,i2⟩
   simpa [Act.eval] using h4
  ·simp at h
 | .cell t ty::l,rs,h=>by
  simp only[retX] at h
  split at h
  ·rename_i s e f r h1 h2
   simp at h
   subst h
   obtain ⟨vs,i1,i2⟩:=retX_sound hrel h2
   obtain ⟨o,ho,hd⟩:=Option.bind_eq_some_iff.1 h1
   obtain ⟨f1,e1,e2,_,_,u,e3,e4⟩:=loadX_sound hrel.rows hrel.boxes (presTrue_nil ρ) ho (v:=a.eval (.tmp t)) fun y hy=>ev_sound hrel (presTrue_nil ρ) hy
   have h4:=dat_out hrel hd (e4.le (Nat.le_refl _) (fun b hb _=>⟨rfl,nf_out hrel e2 (fun _ h=>h.1) hb⟩) (BsLe.refl _ _ _))
   have h5:=load_as e3
   refine ⟨u::vs,?_,_,_,rfl,h4,i2⟩
   have h6:a.eval (.tmp t)=a.tmps.getD t undef:=by simp[Act.eval]
   rw[h6] at h5
   have h7:(resOf a.tmps (.cell t ty)).run P w= .ok u w:=h5
   rw[List.mapM_cons]
   simp[h7,i1]
  ·simp at h
theorem results_run {fn:Func} {tmps:Array Value} {vs:List Value} (h:(fn.results.toList.mapM (resOf tmps)).run P w= .ok vs w):
  (results fn tmps).run P w= .ok (if h:vs.length=1 then vs[0] else .tuple vs.toArray) w:=by
 have e:results fn tmps=(do let vs ←fn.results.mapM (resOf tmps);pure (if h:vs.size=1 then vs[0] else .tuple vs):Sem Value):=by
  unfold results
  congr 1
 rw[e,Array.mapM_eq_mapM_toList]
 simp[h]
theorem start_vars:∀(l:List Sh) (k i:Nat) (s:Sh) (e:E),(retVars k l)[i]?=some (s,e)→l[i]?=some s∧e= .var (k+i)
 | [],_,_,_,_,h=>by simp[retVars] at h
 |x::l,k,0,s,e,h=>by simp[retVars] at h;obtain ⟨rfl,rfl⟩:=h;simp
 |x::l,k,i+1,s,e,h=>by
  simp only[retVars,List.getElem?_cons_succ] at h
  obtain ⟨h1,h2⟩:=start_vars l (k+1) i s e h
  exact ⟨by simpa using h1,by rw[h2];congr 1;omega⟩
theorem retVars_length:∀(l:List Sh) (k:Nat),(retVars k l).length=l.length
 | [],_=>rfl
 |_::l,k=>by simp[retVars,retVars_length l]
theorem RdVs_get {N:Nat→Prop}:∀ {l:List (Sh×C)} {vs:List Value} {i:Nat} {s:Sh} {c:C},RdVs w N l vs→l[i]?=some (s,c)→∃v,vs[i]?=some v∧RdV w N s v c
 | [],_,_,_,_,_,h=>by simp at h
 |(s,c)::l,_,0,_,_,⟨v,r,h1,h2,h3⟩,h=>by simp at h;obtain ⟨rfl,rfl⟩:=h;exact ⟨v,by simp[h1],h2⟩
 |(s,c)::l,_,i+1,_,_,⟨v,r,h1,h2,h3⟩,h=>by
  obtain ⟨u,h4,h5⟩:=RdVs_get h3 (by simpa using h)
  exact ⟨u,by simp[h1,h4],h5⟩
/-- At a call's start. -/
theorem start_sound {args:List (Sh×C)} {vs:List Value} (hkw:KW P w) (h:RdVs w N0 args vs) (n:Nat):
  RelH P N0 ⟨w,fun _=>False⟩ (args.map (·.2)) (startSS (args.map (·.1)) n) (fun _=>undef) {tmps:=vs.toArray++Array.replicate (n-vs.toArray.size) undef,defers:=[]} w:=by
 have hlen:=RdVs_length h
 have hnone:∀(r:Nat) (k:Blk),(startSS (args.map (·.1)) n).blks[r]?=some k→k.lb= .none:=by
  intro r k hk
  simp only[startSS,List.getElem?_replicate] at hk
  split at hk
  ·injection hk with hk;subst hk;rfl
  ·cases hk
 have hlive:∀(r:Nat) (k:Blk),(startSS (args.map (·.1)) n).blks[r]?=some k→liveB k=true→False:=by
  intro r k hk hl
  unfold liveB at hl
  rw[hnone r k hk] at hl
  cases hl
 have htm:∀(t:Nat) (ts:TS),(startSS (args.map (·.1)) n).tmps[t]?=some ts→ts.pres=[]∧(ts.sx= .none∨∃s c,args[t]?=some (s,c)∧ts.sx= .dat s (.var t)):=by
  intro t ts ht
  simp only[startSS] at ht
  rw[List.getElem?_append] at ht
  split at ht
  ·rw[List.getElem?_map] at ht
   cases hr:(retVars 0 (args.map (·.1)))[t]? with
   |none=>simp[hr] at ht
   |some x=>
    obtain ⟨s,e⟩:=x
    simp[hr] at ht
    subst ht
    obtain ⟨h1,h2⟩:=start_vars _ 0 t s e hr
    rw[List.getElem?_map] at h1
    cases ha:args[t]? with
    |none=>simp[ha] at h1
    |some y=>
     obtain ⟨s',c⟩:=y
     simp[ha] at h1
     subst h1
     rw[Nat.zero_add] at h2
     subst h2
     exact ⟨rfl,.inr ⟨s',c,rfl,rfl⟩⟩
  ·rw[List.getElem?_replicate] at ht
   split at ht
   ·injection ht with ht;subst ht;exact ⟨rfl,.inl rfl⟩
   ·cases ht
 refine ⟨rfl,?_,⟨rfl,rfl,rfl,Nat.le_refl _,fun _ _ _=>rfl,hkw,fun _ _ h=>h⟩,fun t ts ht hp=>?_,fun t ts ht hp=>?_,fun r k hr hp=>?_,fun r r' k k' g hr hr' hne hl=>?_⟩
 ·simp[startSS,retVars_length,hlen]
 ·rcases (htm t ts ht).2 with h1|⟨s,c,h1,h2⟩
  ·rw[h1];trivial
  ·rw[h2]
   obtain ⟨v,h3,h4⟩:=RdVs_get h h1
   have hlt:t<vs.length:=(List.getElem?_eq_some_iff.1 h3).1
   have hv:(vs.toArray++Array.replicate (n-vs.toArray.size) undef).getD t undef=v:=by
    have:(vs.toArray++Array.replicate (n-vs.toArray.size) undef)[t]?=some v:=by
     rw[Array.getElem?_append_left (by simpa using hlt)]
     simpa using h3
    rw[Array.getD_eq_getD_getElem?,this]
    rfl
   simp only[hv]
   refine RdX_of ?_ (Exact_leaf (by simp) (by simp))
   have he:(E.var t).eval (args.map (·.2))=c:=by simp[E.eval,List.getD,h1]
   rw[he]
   exact h4.mono (Nat.le_refl _) fun b hb _=>⟨rfl,.inl hb,fun r k hr hl=>(hlive r k hr hl).elim⟩
 ·exact absurd (by rw[(htm t ts ht).1];exact presTrue_nil _) hp
 ·rw[hnone r k hr];trivial
 ·exact (hlive r k hr hl).elim
/-- THE CONTRACT OUT OF THE CONDITION. -/
theorem PC.of_vc {f:FuncId} {fn:Func} (hlt:f<1000000) (hf:P.funcs[f]?=some fn) (hname:(fn.name== "runtime.NumGoroutine")=false) {shs:List Sh} {vc:VC} (hvc:fnVC P cfg hints fn shs=vc)
  {args rets:List (Sh×C)} (hs:args.map (·.1)=shs) (h:vc.holds P (fun r=>r=rets) [] (args.map (·.2))):PC P f args rets:=by
 apply PC.of0 hlt
 subst hvc hs
 unfold fnVC at h
 cases hb:fn.body with
 |none=>simp only[hb] at h;exact h.elim
 |some c=>
  simp only[hb] at h
  refine ⟨⟨fn,hf,by simp[hb],hname⟩,fun w N vs hkw hrd=>calls_of_wp hf hb ?_⟩
  have hst:=start_sound hkw hrd fn.ntmps
  refine sx_sound c hst (by simp[startSS]) rfl h fun e S' l' ρ' Bs' hv' a' w' g1 g2 g3 g4 g5 g6=>?_
  have key:(∃rs,retX P S' fn.results.toList=some rs∧evalArgs ρ' rs=rets)→
    a'.defers=[]∧∃v,(results fn a'.tmps).run P w'= .ok v w'∧∃v',Ending.returned v= .returned v'∧RdRes w' (fun b=>N b∨w.heap.size≤b) rets v'∧Below w.heap.size w w':=by
   rintro ⟨rs,h1,h2⟩
   obtain ⟨us,i1,i2⟩:=retX_sound g5 h1
   rw[h2] at i2
   refine ⟨g5.defers,_,results_run i1,_,rfl,⟨us,i2.mono (Nat.le_refl _) fun b hb _=>⟨rfl,?_⟩,rfl⟩,g5.below.os,g5.below.tape,g5.below.output,g5.below.size,fun k hk=>g5.below.block k hk (fun h=>h)⟩
   rcases hb with hb|hb|hb
   ·exact .inl hb
   ·exact .inr hb
   ·exact hb.elim
  cases e with
  |exit id=>exact g6.elim
  |normal=>
   refine key ?_
   simp only at g6
   split at g6
   ·rename_i rs h1;exact ⟨rs,h1,g6⟩
   ·exact g6.elim
  |ret=>
   refine key ?_
   simp only at g6
   split at g6
   ·rename_i rs h1;exact ⟨rs,h1,g6⟩
   ·exact g6.elim
/-! All slices nil. -/
theorem NilL_prim {N:Nat→Prop}:∀ {s:Sh} {us:List Value} {c:C},s.prim=true→Rd w N s us c→NilL s us
 | .int _,_,_,_,_| .bool,_,_,_,_| .str,_,_,_,_| .unit,_,_,_,_=>trivial
 | .sl _,_,_,hp,_| .ifc _ _,_,_,hp,_| .mp _ _,_,_,hp,_=>by cases hp
 | .nili,_,_,_,_| .fun_ _,_,_,_,_=>trivial
 | .pair a b,_,_,hp,⟨_,va,vb,h1,h2,h3⟩=>by
  simp only[Sh.prim,Bool.and_eq_true] at hp
  exact ⟨va,vb,h1,h2.length,NilL_prim hp.1 h2,NilL_prim hp.2 h3⟩
theorem nilOk_sound {N:Nat→Prop}:∀ {s:Sh} {e:E} {us:List Value},nilOk s e=true→Rd w N s us (e.eval ρ)→Exact s e us→NilL s us
 | .int _,_,_,_,_,_| .bool,_,_,_,_,_| .str,_,_,_,_,_| .unit,_,_,_,_,_| .nili,_,_,_,_,_| .fun_ _,_,_,_,_,_=>trivial
 | .ifc _ _,e,_,h,_,_=>by cases e<;>simp[nilOk] at h
 | .mp _ _,e,_,h,_,_=>by cases e<;>simp[nilOk] at h
 | .sl s,e,us,h,_,hx=>by
  cases e<;>simp[nilOk] at h
  exact hx
 | .pair a b,e,us,h,hr,hx=>by
  cases e with
  |cons x y=>
   simp only[nilOk,Bool.and_eq_true] at h
   obtain ⟨h0,va,vb,h1,h2,h3⟩:=hr
   obtain ⟨na,nb,n1,n2,n3,n4⟩:=hx
   obtain ⟨rfl,rfl⟩:va=na∧vb=nb:=List.append_inj (h1.symm.trans n1) (by rw[h2.length,n2])
   exact ⟨va,vb,h1,n2,nilOk_sound h.1 (by simpa [E.eval] using h2) n3,nilOk_sound h.2 (Rd.of_list h0 (by simp[E.eval]) h3) n4⟩
  |_=>exact NilL_prim (by simpa [nilOk,Sh.prim] using h) hr
theorem NC.of_vc {f:FuncId} {fn:Func} (hf:P.funcs[f]?=some fn) (hname:(fn.name== "runtime.NumGoroutine")=false) {shs:List Sh} {vc:VC} (hvc:fnVCN P cfg hints fn shs=vc)
  {s:Sh} {c1:C} {args:List (Sh×C)} (hs:args.map (·.1)=shs) (h:vc.holds P (fun r=>r=[(s,c1)]) [] (args.map (·.2))):NC P f args [(s,c1)]:=by
 subst hvc hs
 unfold fnVCN at h
 cases hb:fn.body with
 |none=>simp only[hb] at h;exact h.elim
 |some c=>
  simp only[hb] at h
  refine ⟨s,c1,rfl,⟨fn,hf,by simp[hb],hname⟩,fun w N vs hkw hrd=>calls_of_wp hf hb ?_⟩
  have hst:=start_sound hkw hrd fn.ntmps
  refine sx_sound c hst (by simp[startSS]) rfl h fun e S' l' ρ' Bs' hv' a' w' g1 g2 g3 g4 g5 g6=>?_
  have key:((match fn.results.toList with
   | [.tmp t]=>match S'.ev P [] (.tmp t) 0 with
    |some (.dat s e)=>if nilOk s e then VC.ret [(s,e)] else .fail 8000004
    |_=> .fail 8000002
   | [.cell t ty]=>match loadX P S'.rb [] ty (S'.ev P [] (.tmp t) 0) with
    |some ⟨.dat s e,_,_,_⟩=>if nilOk s e then VC.ret [(s,e)] else .fail 8000004
    |_=> .fail 8000002
   |_=> .fail 8000002):VC).holds P (fun r=>r=[(s,c1)]) Bs' ρ'→
    a'.defers=[]∧∃v,(results fn a'.tmps).run P w'= .ok v w'∧∃us,Ending.returned v= .returned (s.mk us)∧Rd w' (fun b=>N b∨w.heap.size≤b) s us c1∧NilL s us∧Below w.heap.size w w':=by
   intro g6
   split at g6
   ·rename_i t hres
    split at g6
    ·rename_i s' e' hx
     split at g6
     ·rename_i hok
      simp only[VC.holds,evalArgs,List.map_cons,List.map_nil,List.cons.injEq,Prod.mk.injEq,and_true] at g6
      obtain ⟨rfl,rfl⟩:=g6
      obtain ⟨us,i1,i2,i3⟩:=ev_sound g5 (presTrue_nil ρ') hx
      have hrun:(fn.results.toList.mapM (resOf a'.tmps)).run P w'= .ok [s'.mk us] w':=by
       rw[hres]
       have:a'.tmps.getD t undef=s'.mk us:=by rw[←i2];simp[Act.eval]
       simp only[List.mapM_cons,List.mapM_nil,resOf,this]
       simp
      have hr:=results_run hrun
      simp only[List.length_singleton,dif_pos] at hr
      refine ⟨g5.defers,_,hr,us,rfl,i1.mono (Nat.le_refl _) fun b hb _=>⟨rfl,?_⟩,nilOk_sound hok i1 i3,g5.below.os,g5.below.tape,g5.below.output,g5.below.size,fun k hk=>g5.below.block k hk (fun h=>h)⟩
      rcases hb.1 with hb|hb|hb
      ·exact .inl hb
      ·exact .inr hb
      ·exact hb.elim
     ·exact g6.elim
    ·exact g6.elim
   ·rename_i t ty hres
    split at g6
    ·rename_i s' e' cm nv' ob' hx
     split at g6
     ·rename_i hok
      simp only[VC.holds,evalArgs,List.map_cons,List.map_nil,List.cons.injEq,Prod.mk.injEq,and_true] at g6
      obtain ⟨rfl,rfl⟩:=g6
      obtain ⟨f1,e1,e2,_,_,u,e3,e4⟩:=loadX_sound g5.rows g5.boxes (presTrue_nil ρ') hx (v:=a'.eval (.tmp t)) fun y hy=>ev_sound g5 (presTrue_nil ρ') hy
      obtain ⟨us,i1,i2,i3⟩:=e4
      have h5:=load_as e3
      have h6:a'.eval (.tmp t)=a'.tmps.getD t undef:=by simp[Act.eval]
      rw[h6] at h5
      have h7:(resOf a'.tmps (.cell t ty)).run P w'= .ok u w':=h5
      have hrun:(fn.results.toList.mapM (resOf a'.tmps)).run P w'= .ok [s'.mk us] w':=by
       rw[hres]
       rw[List.mapM_cons]
       simp[h7,i2]
      have hr:=results_run hrun
      simp only[List.length_singleton,dif_pos] at hr
      refine ⟨g5.defers,_,hr,us,rfl,i1.mono (Nat.le_refl _) fun b hb _=>⟨rfl,?_⟩,nilOk_sound hok i1 i3,g5.below.os,g5.below.tape,g5.below.output,g5.below.size,fun k hk=>g5.below.block k hk (fun h=>h)⟩
      rcases nf_out g5 e2 (fun _ h=>h.1) hb with hb|hb|hb
      ·exact .inl hb
      ·exact .inr hb
      ·exact hb.elim
     ·exact g6.elim
    ·exact g6.elim
   ·exact g6.elim
  cases e with
  |exit id=>exact g6.elim
  |normal=>exact key g6
  |ret=>exact key g6
/-! A row of the caller's own comes in, or a new one goes out. -/
theorem retF_sound (hrel:RelH P N0 w0 ρ S hv a w):∀ {l:List ResultVar} {rs:List (Sh×E)} {fz:List Nat},retF P S l=some (rs,fz)→
  (∀q∈fz,LiveAt S.blks ρ q)∧
  ∃vs,(l.mapM (resOf a.tmps)).run P w= .ok vs w∧RdVs w (NF (NN N0 w0.own ρ S.blks hv) hv fz) (evalArgs ρ rs) vs
 | [],rs,fz,h=>by
  simp[retF] at h
  obtain ⟨rfl,rfl⟩:=h
  exact ⟨fun q hq=>by simp at hq,[],by simp,rfl⟩
 | .tmp t::l,rs,fz,h=>by
  simp only[retF] at h
  split at h
  ·rename_i s e f r g h1 h2
   simp at h
   obtain ⟨rfl,rfl⟩:=h
   obtain ⟨i0,vs,i1,i2⟩:=retF_sound hrel h2
   obtain ⟨x,hx,hd⟩:=Option.bind_eq_some_iff.1 h1
   have h3:=ev_sound hrel (presTrue_nil ρ) hx
   have h4:=RdX_dat (datOf_sound hrel.rows (presTrue_nil ρ) hd h3)
   have h5:=datOf_rows (presTrue_nil ρ) hd
   refine ⟨fun q hq=>?_,a.tmps.getD t undef::vs,by simp only[List.mapM_cons,resOf];simp[i1],_,_,rfl,?_,?_⟩
   ·rcases List.mem_append.1 hq with hq|hq
    ·exact h5 q hq
    ·exact i0 q hq
   ·have e6:a.eval (.tmp t)=a.tmps.getD t undef:=by simp[Act.eval]
    rw[e6] at h4
    refine h4.mono (Nat.le_refl _) fun b hb _=>⟨rfl,?_⟩
    rcases hb with hb|⟨q,hq,hg⟩
    ·exact .inl hb
    ·exact .inr ⟨q,List.mem_append.2 (.inl hq),hg⟩
   ·refine i2.mono (Nat.le_refl _) fun b hb _=>⟨rfl,?_⟩
    rcases hb with hb|⟨q,hq,hg⟩
    ·exact .inl hb
    ·exact .inr ⟨q,List.mem_append.2 (.inr hq),hg⟩
  ·simp at h
 | .cell _ _::_,rs,fz,h=>by simp[retF] at h
/-- What is handed back with a row of the call's own ahead. -/
theorem retO_sound {N:Nat→Prop} {G:Nat→Prop} {wi:World} (hrel:RelH P N ⟨wi,G⟩ ρ S hv a w) {v0:Value} (hG:∀g,G g↔blkNo v0=some g) {l:List ResultVar} {rs:List (Sh×E)} (h:retO P S l=some rs):
  ∃s e rs' v1 vr et xs,rs=(.sl s,e)::rs'∧(l.mapM (resOf a.tmps)).run P w= .ok (v1::vr) w∧w.ownsR (fun g=>wi.heap.size≤g∨blkNo v0=some g) et s.size v1 (e.eval ρ).toList.length xs∧
   RdRow w (Behind N wi v0 v1) s xs (e.eval ρ).toList∧RdVs w (Behind N wi v0 v1) (evalArgs ρ rs') vr:=by
 have own_of:∀ {b},(Wb.own ⟨wi,G⟩ b)→wi.heap.size≤b∨blkNo v0=some b:=fun hb=>hb.imp id (hG _).1
 unfold retO at h
 split at h
 ·rename_i t l
  have e6:a.eval (.tmp t)=a.tmps.getD t undef:=by simp[Act.eval]
  split at h
  ·rename_i r n hx
   split at h
   ·rename_i s e rs1 fz hor hrf
    split at h
    ·rename_i hnr
     have hnr:r∉fz:=by simpa using hnr
     simp at h
     subst h
     obtain ⟨hfz,vs,i1,i2⟩:=retF_sound hrel hrf
     have hr:=ownRow_blk hor
     have hin0:rowIn S.blks r=some (s,e,[]):=by simp[rowIn,hr]
     obtain ⟨hv0,_⟩:=(ev_sound hrel (presTrue_nil ρ) hx).2 s e [] hin0 (presTrue_nil ρ)
     obtain ⟨et,xs,hown,hrd,_⟩:=hrel.rows.row r s e [] hin0 (presTrue_nil ρ)
     have hNN:∀b,NN N (Wb.own ⟨wi,G⟩) ρ S.blks hv b→Behind N wi v0 (hv r) b:=by
      intro b hb
      refine ⟨hb.1.imp id own_of,hb.2 r _ hr rfl rfl (presTrue_nil ρ)⟩
     refine ⟨s,e,rs1,hv r,vs,et,xs,rfl,?_,ownsR_mono hown fun g _ hg=>own_of hg,hrd.mono (Nat.le_refl _) fun b hb _=>⟨rfl,hNN b hb⟩,i2.mono (Nat.le_refl _) fun b hb _=>⟨rfl,?_⟩⟩
     ·rw[e6] at hv0
      simp only[List.mapM_cons,resOf]
      simp[i1,hv0]
     ·rcases hb with hb|⟨q,hq,hg⟩
      ·exact hNN b hb
      ·obtain ⟨k2,e5,el,e4⟩:=hfz q hq
       exact ⟨.inr (own_of (hrel.lt e5 el e4 hg).2),fun hc=>hrel.dist r q _ _ b hr e5 (fun e=>hnr (e▸hq)) rfl el (presTrue_nil ρ) e4 hc hg⟩
    ·simp at h
   ·simp at h
  ·rename_i s hx
   split at h
   ·rename_i rs1 fz hrf
    simp at h
    subst h
    obtain ⟨hfz,vs,i1,i2⟩:=retF_sound hrel hrf
    obtain ⟨us,e1,e2,e3⟩:=ev_sound hrel (presTrue_nil ρ) hx
    simp only[Exact] at e3
    subst e3
    have hv0:a.tmps.getD t undef= .slice none 0 0:=by rw[←e6,e2];simp[Sh.mk,Sh.isAgg]
    refine ⟨s,.nilS,rs1,.slice none 0 0,vs,0,[],rfl,?_,⟨by simp[E.eval],.inl ⟨rfl,by simp[E.eval]⟩⟩,by simp[E.eval,RdRow],i2.mono (Nat.le_refl _) fun b hb _=>⟨rfl,?_,by simp[blkNo]⟩⟩
    ·simp only[List.mapM_cons,resOf]
     simp[i1,hv0]
    ·rcases hb with hb|⟨q,hq,hg⟩
     ·exact hb.1.imp id own_of
     ·obtain ⟨k2,e5,el,e4⟩:=hfz q hq
      exact .inr (own_of (hrel.lt e5 el e4 hg).2)
   ·simp at h
  ·simp at h
 ·simp at h
/-- At the start of a call that is handed a row. -/
theorem startG_sound {s:Sh} {c0:C} {args:List (Sh×C)} {et:TypeId} {xs:List Value} {v0:Value} {vs:List Value} (hs0:0<s.size) (hown:w.ownsR (fun _=>True) et s.size v0 c0.toList.length xs)
  (hrow:RdRow w N0 s xs c0.toList) (hne:∀g,blkNo v0=some g→¬N0 g) (hkw:KW P w) (hkb:∀g,blkNo v0=some g→¬KWb P g) (h:RdVs w N0 args vs) (n:Nat):
  RelH P N0 ⟨w,fun g=>blkNo v0=some g⟩ (c0::args.map (·.2)) (startG s (args.map (·.1)) n) (fun _=>v0) {tmps:=(v0::vs).toArray++Array.replicate (n-(v0::vs).toArray.size) undef,defers:=[]} w:=by
 have hlen:=RdVs_length h
 have hblk:∀(r:Nat) (k:Blk),(startG s (args.map (·.1)) n).blks[r]?=some k→k.lb= .none∨(r=n+16∧k=⟨.row s (.var 0),false,[]⟩):=by
  intro r k hk
  simp only[startG] at hk
  rw[List.getElem?_append] at hk
  split at hk
  ·rw[List.getElem?_replicate] at hk
   split at hk
   ·injection hk with hk;subst hk;exact .inl rfl
   ·cases hk
  ·rename_i hge
   have hlt:=(List.getElem?_eq_some_iff.1 hk).1
   simp only[List.length_replicate,List.length_singleton] at hlt hge
   have hr:r=n+16:=by omega
   subst hr
   simp at hk
   exact .inr ⟨rfl,hk.symm⟩
 have hq:(startG s (args.map (·.1)) n).blks[n+16]?=some ⟨.row s (.var 0),false,[]⟩:=by
  simp[startG]
 have hNN:∀b,N0 b→NN N0 (Wb.own ⟨w,fun g=>blkNo v0=some g⟩) (c0::args.map (·.2)) (startG s (args.map (·.1)) n).blks (fun _=>v0) b:=
  fun b hb=>⟨.inl hb,fun r k _ _ _ _ hc=>hne b hc hb⟩
 have htm:∀(t:Nat) (ts:TS),(startG s (args.map (·.1)) n).tmps[t]?=some ts→ts.pres=[]∧(ts.sx= .none∨(t=0∧ts.sx= .full (n+16) (.len (.var 0)))∨∃j s c,t=j+1∧args[j]?=some (s,c)∧ts.sx= .dat s (.var t)):=by
  intro t ts ht
  simp only[startG] at ht
  rw[List.getElem?_append] at ht
  split at ht
  ·cases t with
   |zero=>
    simp at ht
    subst ht
    exact ⟨rfl,.inr (.inl ⟨rfl,rfl⟩)⟩
   |succ j=>
    rw[List.getElem?_cons_succ,List.getElem?_map] at ht
    cases hr:(retVars 1 (args.map (·.1)))[j]? with
    |none=>simp[hr] at ht
    |some x=>
     obtain ⟨s',e⟩:=x
     simp[hr] at ht
     subst ht
     obtain ⟨h1,h2⟩:=start_vars _ 1 j s' e hr
     rw[List.getElem?_map] at h1
     cases ha:args[j]? with
     |none=>simp[ha] at h1
     |some y=>
      obtain ⟨s2,c⟩:=y
      simp[ha] at h1
      subst h1
      rw[Nat.add_comm] at h2
      subst h2
      exact ⟨rfl,.inr (.inr ⟨j,s2,c,rfl,ha,rfl⟩)⟩
  ·rw[List.getElem?_replicate] at ht
   split at ht
   ·injection ht with ht;subst ht;exact ⟨rfl,.inl rfl⟩
   ·cases ht
 refine ⟨rfl,?_,⟨rfl,rfl,rfl,Nat.le_refl _,fun _ _ _=>rfl,hkw,fun g hg hb=>hkb g hb hg⟩,fun t ts ht hp=>?_,fun t ts ht hp=>?_,fun r k hr hp=>?_,fun r r' k k' g hr hr' hne' hl hl' _ _ _=>?_⟩
 ·simp[startG,retVars_length,hlen];omega
 ·rcases (htm t ts ht).2 with h1|⟨rfl,h1⟩|⟨j,s',c,rfl,h1,h2⟩
  ·rw[h1];trivial
  ·rw[h1]
   refine ⟨⟨_,hq,by simp⟩,fun s' e p hr _=>?_⟩
   simp[rowIn,hq] at hr
   obtain ⟨rfl,rfl,rfl⟩:=hr
   refine ⟨?_,rfl⟩
   have:((v0::vs).toArray++Array.replicate (n-(v0::vs).toArray.size) undef)[0]?=some v0:=by
    rw[Array.getElem?_append_left (by simp)]
    simp
   rw[Array.getD_eq_getD_getElem?,this]
   rfl
  ·rw[h2]
   obtain ⟨v,h3,h4⟩:=RdVs_get h h1
   have hlt:j<vs.length:=(List.getElem?_eq_some_iff.1 h3).1
   have hv:((v0::vs).toArray++Array.replicate (n-(v0::vs).toArray.size) undef).getD (j+1) undef=v:=by
    have:((v0::vs).toArray++Array.replicate (n-(v0::vs).toArray.size) undef)[j+1]?=some v:=by
     rw[Array.getElem?_append_left (by simpa using hlt)]
     simpa using h3
    rw[Array.getD_eq_getD_getElem?,this]
    rfl
   simp only[hv]
   refine RdX_of ?_ (Exact_leaf (by simp) (by simp))
   have he:(E.var (j+1)).eval (c0::args.map (·.2))=c:=by simp[E.eval,List.getD,h1]
   rw[he]
   exact h4.mono (Nat.le_refl _) fun b hb _=>⟨rfl,hNN b hb⟩
 ·exact absurd (by rw[(htm t ts ht).1];exact presTrue_nil _) hp
 ·rcases hblk r k hr with h1|⟨rfl,rfl⟩
  ·rw[h1];trivial
  ·exact ⟨et,xs,ownsR_mono hown fun g hg _=> .inr hg,hrow.mono (Nat.le_refl _) fun b hb _=>⟨rfl,hNN b hb⟩,hs0⟩
 ·rcases hblk r k hr with h1|⟨rfl,rfl⟩
  ·simp[liveB,h1] at hl
  ·rcases hblk r' k' hr' with h1|⟨rfl,rfl⟩
   ·simp[liveB,h1] at hl'
   ·exact absurd rfl hne'
theorem GC.of_vc {f:FuncId} {fn:Func} (hf:P.funcs[f]?=some fn) (hname:(fn.name== "runtime.NumGoroutine")=false) {s:Sh} {shs:List Sh} {vc:VC} (hvc:fnVCG P cfg hints fn s shs=vc)
  {c0 c1:C} {args rets:List (Sh×C)} (hs:args.map (·.1)=shs) (h:vc.holds P (fun r=>r=(.sl s,c1)::rets) [] (c0::args.map (·.2))):GC P f ((.sl s,c0)::args) ((.sl s,c1)::rets):=by
 subst hvc hs
 unfold fnVCG at h
 split at h
 ·rename_i hs0
  have hs0:0<s.size:=by simp at hs0;omega
  cases hb:fn.body with
  |none=>simp only[hb] at h;exact h.elim
  |some c=>
   simp only[hb] at h
   refine ⟨s,c0,args,c1,rets,rfl,rfl,⟨fn,hf,by simp[hb],hname⟩,fun w N et xs v0 vs hkw hkb h1 h2 h3 h4=>calls_of_wp hf hb ?_⟩
   have hst:=startG_sound hs0 h1 h2 h3 hkw hkb h4 fn.ntmps
   refine sx_sound c hst (by simp[startG]) rfl h fun e S' l' ρ' Bs' hv' a' w' g1 g2 g3 g4 g5 g6=>?_
   have key:(∃rs,retO P S' fn.results.toList=some rs∧evalArgs ρ' rs=(.sl s,c1)::rets)→
     a'.defers=[]∧∃v,(results fn a'.tmps).run P w'= .ok v w'∧∃v1 vr et' xs',Ending.returned v= .returned (pack (v1::vr))∧w.grownBy w' (blkNo v0)∧
      w'.ownsR (fun g=>w.heap.size≤g∨blkNo v0=some g) et' s.size v1 c1.toList.length xs'∧RdRow w' (Behind N w v0 v1) s xs' c1.toList∧RdVs w' (Behind N w v0 v1) rets vr:=by
    rintro ⟨rs,i1,i2⟩
    obtain ⟨s',e',rs',v1,vr,et',xs',rfl,j1,j2,j3,j4⟩:=retO_sound g5 (fun g=>Iff.rfl) i1
    simp only[evalArgs,List.map_cons,List.cons.injEq,Prod.mk.injEq,Sh.sl.injEq] at i2
    obtain ⟨⟨rfl,rfl⟩,rfl⟩:=i2
    exact ⟨g5.defers,_,results_run j1,v1,vr,et',xs',rfl,⟨g5.below.os,g5.below.tape,g5.below.output,g5.below.size,fun k hk hn=>g5.below.block k hk fun hc=>hn hc.symm⟩,j2,j3,j4⟩
   cases e with
   |exit id=>exact g6.elim
   |normal=>
    refine key ?_
    simp only at g6
    split at g6
    ·rename_i rs h1;exact ⟨rs,h1,g6⟩
    ·exact g6.elim
   |ret=>
    refine key ?_
    simp only at g6
    split at g6
    ·rename_i rs h1;exact ⟨rs,h1,g6⟩
    ·exact g6.elim
 ·exact h.elim
theorem FC.of_vc {f:FuncId} {fn:Func} (hf:P.funcs[f]?=some fn) (hname:(fn.name== "runtime.NumGoroutine")=false) {s:Sh} {shs:List Sh} {vc:VC} (hvc:fnVCF P cfg hints fn shs=vc)
  {c1:C} {args rets:List (Sh×C)} (hs:args.map (·.1)=shs) (h:vc.holds P (fun r=>r=(.sl s,c1)::rets) [] (args.map (·.2))):FC P f args ((.sl s,c1)::rets):=by
 subst hvc hs
 unfold fnVCF at h
 cases hb:fn.body with
 |none=>simp only[hb] at h;exact h.elim
 |some c=>
  simp only[hb] at h
  refine ⟨s,c1,rets,rfl,⟨fn,hf,by simp[hb],hname⟩,fun w N vs hkw hrd=>calls_of_wp hf hb ?_⟩
  have hst:=start_sound hkw hrd fn.ntmps
  refine sx_sound c hst (by simp[startSS]) rfl h fun e S' l' ρ' Bs' hv' a' w' g1 g2 g3 g4 g5 g6=>?_
  have key:(∃rs,retO P S' fn.results.toList=some rs∧evalArgs ρ' rs=(.sl s,c1)::rets)→
    a'.defers=[]∧∃v,(results fn a'.tmps).run P w'= .ok v w'∧∃v1 vr et' xs',Ending.returned v= .returned (pack (v1::vr))∧Below w.heap.size w w'∧
     w'.ownsR (fun g=>w.heap.size≤g) et' s.size v1 c1.toList.length xs'∧RdRow w' (Behind N w (.slice none 0 0) v1) s xs' c1.toList∧RdVs w' (Behind N w (.slice none 0 0) v1) rets vr:=by
   rintro ⟨rs,i1,i2⟩
   obtain ⟨s',e',rs',v1,vr,et',xs',rfl,j1,j2,j3,j4⟩:=retO_sound g5 (v0:= .slice none 0 0) (fun g=>⟨False.elim,fun h=>by cases h⟩) i1
   simp only[evalArgs,List.map_cons,List.cons.injEq,Prod.mk.injEq,Sh.sl.injEq] at i2
   obtain ⟨⟨rfl,rfl⟩,rfl⟩:=i2
   exact ⟨g5.defers,_,results_run j1,v1,vr,et',xs',rfl,⟨g5.below.os,g5.below.tape,g5.below.output,g5.below.size,fun k hk=>g5.below.block k hk id⟩,ownsR_mono j2 fun g _ hg=>hg.elim id (fun h=>by cases h),j3,j4⟩
  cases e with
  |exit id=>exact g6.elim
  |normal=>
   refine key ?_
   simp only at g6
   split at g6
   ·rename_i rs h1;exact ⟨rs,h1,g6⟩
   ·exact g6.elim
  |ret=>
   refine key ?_
   simp only at g6
   split at g6
   ·rename_i rs h1;exact ⟨rs,h1,g6⟩
   ·exact g6.elim
end
end Go.Vc

namespace Go.Vc
/-- grow, fresh: the functions that are called with a row of the caller's own, that hand back a new one; nils: that hand back a value all of whose slices are nil; pars, rets: shapes of parameters, and of what functions hand back, where their types do not tell them. -/
structure Opt where
 grow:List Nat:=[]
 fresh:List Nat:=[]
 nils:List Nat:=[]
 pars:List (Nat×Sh):=[]
 rets:List (Nat×List Sh):=[]
 cuts:List Nat:=[]
/-- The shapes of the parameters: by their types, or as told. -/
def fnShs (P:Program) (opt:Opt) (fn:Func):Option (List Sh):=fn.params.toList.zipIdx.mapM fun x=>match opt.pars.find? (·.1==x.2) with|some (_,s)=>some s|none=>shp P x.1
def Opt.cfg (o:Opt) (raw:Bool) (c:Code):Cfg:= {raw,rows:=rowLits c,grow:=o.grow,fresh:=o.fresh,nils:=o.nils,keeps:=keepsOf c,rets:=o.rets,marks:=marksOf c,cuts:=o.cuts}
def autoVC (P:Program) (raw:Bool) (opt:Opt) (hints:List Hint) (fn:Func):List Sh×VC:=
 match fnShs P opt fn,fn.body with
 |some shs,some c=>(shs,fnVC P (opt.cfg raw c) hints fn shs)
 |_,_=>([],.fail 9000000)
def autoVCG (P:Program) (raw:Bool) (opt:Opt) (hints:List Hint) (fn:Func):List Sh×VC:=
 match fnShs P opt fn,fn.body with
 |some (.sl s::shs),some c=>(.sl s::shs,fnVCG P (opt.cfg raw c) hints fn s shs)
 |_,_=>([],.fail 9000000)
def autoVCF (P:Program) (raw:Bool) (opt:Opt) (hints:List Hint) (fn:Func):List Sh×VC:=
 match fnShs P opt fn,fn.body with
 |some shs,some c=>(shs,fnVCF P (opt.cfg raw c) hints fn shs)
 |_,_=>([],.fail 9000000)
theorem PC.auto {P:Program} {raw:Bool} {opt:Opt} {hints:List Hint} {f:FuncId} {fn:Func} (hlt:f<1000000) (hf:P.funcs[f]?=some fn) (hname:(fn.name== "runtime.NumGoroutine")=false) {shs:List Sh} {vc:VC}
  (hvc:autoVC P raw opt hints fn=(shs,vc)) {args rets:List (Sh×C)} (hs:args.map (·.1)=shs) (h:vc.holds P (fun r=>r=rets) [] (args.map (·.2))):PC P f args rets:=by
 unfold autoVC at hvc
 split at hvc
 ·simp only[Prod.mk.injEq] at hvc
  exact PC.of_vc hlt hf hname hvc.2 (hs.trans hvc.1.symm) h
 ·simp only[Prod.mk.injEq] at hvc
  rw[←hvc.2] at h
  exact h.elim
theorem PC.autoG {P:Program} {raw:Bool} {opt:Opt} {hints:List Hint} {f:FuncId} {fn:Func} (hlt:f<1000000) (hf:P.funcs[f]?=some fn) (hname:(fn.name== "runtime.NumGoroutine")=false) {s:Sh} {shs:List Sh} {vc:VC}
  (hvc:autoVCG P raw opt hints fn=(.sl s::shs,vc)) {c0 c1:C} {args rets:List (Sh×C)} (hs:args.map (·.1)=shs) (h:vc.holds P (fun r=>r=(.sl s,c1)::rets) [] (c0::args.map (·.2))):
  PC P (1000000+f) ((.sl s,c0)::args) ((.sl s,c1)::rets):=by
 unfold autoVCG at hvc
 split at hvc
 ·simp only[Prod.mk.injEq,List.cons.injEq,Sh.sl.injEq] at hvc
  obtain ⟨⟨rfl,h1⟩,h2⟩:=hvc
  exact PC.ofG hlt (GC.of_vc hf hname h2 (hs.trans h1.symm) h)
 ·simp only[Prod.mk.injEq] at hvc
  rw[←hvc.2] at h
  exact h.elim
theorem PC.autoF {P:Program} {raw:Bool} {opt:Opt} {hints:List Hint} {f:FuncId} {fn:Func} (hlt:f<1000000) (hf:P.funcs[f]?=some fn) (hname:(fn.name== "runtime.NumGoroutine")=false) {s:Sh} {shs:List Sh} {vc:VC}
  (hvc:autoVCF P raw opt hints fn=(shs,vc)) {c1:C} {args rets:List (Sh×C)} (hs:args.map (·.1)=shs) (h:vc.holds P (fun r=>r=(.sl s,c1)::rets) [] (args.map (·.2))):
  PC P (2000000+f) args ((.sl s,c1)::rets):=by
 unfold autoVCF at hvc
 split at hvc
 ·simp only[Prod.mk.injEq] at hvc
  exact PC.ofF hlt (FC.of_vc hf hname hvc.2 (hs.trans hvc.1.symm) h)
 ·simp only[Prod.mk.injEq] at hvc
  rw[←hvc.2] at h
  exact h.elim
end Go.Vc

namespace Go.Vc
abbrev Vp (P:Program) (f:FuncId) (shs:List Sh) (vc:VC):Prop:=∀ {args rets:List (Sh×C)},args.map (·.1)=shs→vc.holds P (fun r=>r=rets) [] (args.map (·.2))→PC P f args rets
theorem Vp.mk {P:Program} {opt:Opt} {hints:List Hint} {f:FuncId} {fn:Func} (hlt:f<1000000) (hf:P.funcs[f]?=some fn) (hname:(fn.name== "runtime.NumGoroutine")=false) {shs:List Sh} {vc:VC} (hvc:autoVC P true opt hints fn=(shs,vc)):Vp P f shs vc:=fun hs h=>PC.auto hlt hf hname hvc hs h
end Go.Vc

namespace Go.Vc
section
variable {P:Program} {Post:List (Sh×C)→Prop} {B:List (List C→Prop)} {ρ:List C} {p:Pres} {e:E} {k a b:VC}
theorem VC.H_asrt:(VC.asrt p e k).holds P Post B ρ=((presTrue ρ p→(e.eval ρ).toBool=true)∧k.holds P Post B ρ):=id rfl
theorem VC.H_cond:(VC.cond e a b).holds P Post B ρ=(((e.eval ρ).toBool=true→a.holds P Post B ρ)∧((e.eval ρ).toBool=false→b.holds P Post B ρ)):=id rfl
theorem VC.H_amb:(VC.amb e a b).holds P Post B ρ=(((e.eval ρ).toList=[]→a.holds P Post B ρ)∧b.holds P Post B ρ):=id rfl
theorem VC.H_ret {rs:List (Sh×E)}:(VC.ret rs).holds P Post B ρ=Post (evalArgs ρ rs):=id rfl
theorem VC.H_back {lvl:Nat} {es:List E}:(VC.back lvl es).holds P Post B ρ=(B.getD lvl fun _=>False) (es.map (·.eval ρ)):=id rfl
theorem VC.H_call {f:Nat} {args:List (Sh×E)} {rets:List Sh}:(VC.call p f args rets k).holds P Post B ρ=
  ∃res:List C,res.length=rets.length∧(presTrue ρ p→PC P f (evalArgs ρ args) (rets.zip res))∧k.holds P Post B (ρ++res):=id rfl
theorem VC.H_call1 {f:Nat} {args:List (Sh×E)} {r:Sh}:(VC.call p f args [r] k).holds P Post B ρ=
  ∃x:C,(presTrue ρ p→PC P f (evalArgs ρ args) [(r,x)])∧k.holds P Post B (ρ++ [x]):=by
 apply propext
 rw[VC.H_call]
 constructor
 ·rintro ⟨res,h,h1,h2⟩
  match res,h with
  | [x],_=>exact ⟨x,h1,h2⟩
 ·rintro ⟨x,h1,h2⟩
  exact ⟨[x],rfl,h1,h2⟩
theorem VC.H_call2 {f:Nat} {args:List (Sh×E)} {r r':Sh}:(VC.call p f args [r,r'] k).holds P Post B ρ=
  ∃x y:C,(presTrue ρ p→PC P f (evalArgs ρ args) [(r,x),(r',y)])∧k.holds P Post B (ρ++ [x,y]):=by
 apply propext
 rw[VC.H_call]
 constructor
 ·rintro ⟨res,h,h1,h2⟩
  match res,h with
  | [x,y],_=>exact ⟨x,y,h1,h2⟩
 ·rintro ⟨x,y,h1,h2⟩
  exact ⟨[x,y],rfl,h1,h2⟩
theorem VC.H_call3 {f:Nat} {args:List (Sh×E)} {r r' r'':Sh}:(VC.call p f args [r,r',r''] k).holds P Post B ρ=
  ∃x y z:C,(presTrue ρ p→PC P f (evalArgs ρ args) [(r,x),(r',y),(r'',z)])∧k.holds P Post B (ρ++ [x,y,z]):=by
 apply propext
 rw[VC.H_call]
 constructor
 ·rintro ⟨res,h,h1,h2⟩
  match res,h with
  | [x,y,z],_=>exact ⟨x,y,z,h1,h2⟩
 ·rintro ⟨x,y,z,h1,h2⟩
  exact ⟨[x,y,z],rfl,h1,h2⟩
end
/-- What holds at the heads of the loops around may be told more weakly. -/
def BLe (B B':List (List C→Prop)):Prop:=B.length=B'.length∧∀(i:Nat) (f g:List C→Prop) (vs:List C),B[i]?=some f→B'[i]?=some g→f vs→g vs
theorem BLe.snoc {B B':List (List C→Prop)} (h:BLe B B') (f:List C→Prop):BLe (B++ [f]) (B'++ [f]):=by
 refine ⟨by simp[h.1],fun i g g' vs h1 h2 h3=>?_⟩
 by_cases hi:i<B.length
 ·rw[List.getElem?_append_left hi] at h1
  rw[List.getElem?_append_left (by rw[←h.1];exact hi)] at h2
  exact h.2 i g g' vs h1 h2 h3
 ·have hi':i=B.length:=by
   have:=(List.getElem?_eq_some_iff.1 h1).1
   simp at this
   omega
  subst hi'
  rw[List.getElem?_append_right (Nat.le_refl _)] at h1
  rw[List.getElem?_append_right (by rw[h.1];exact Nat.le_refl _)] at h2
  rw[h.1] at h2
  simp at h1 h2
  subst h1 h2
  exact h3
theorem VC.holds_mono {P:Program} {Post:List (Sh×C)→Prop}:∀ {B B':List (List C→Prop)} {ρ:List C} (_:BLe B B') (k:VC),k.holds P Post B ρ→k.holds P Post B' ρ
 |_,_,_,_,.fail _,h=>h
 |_,_,_,hb,.asrt _ _ k,h=>⟨h.1,VC.holds_mono hb k h.2⟩
 |_,_,_,hb,.call _ _ _ _ k,h=>let ⟨res,h1,h2,h3⟩:=h;⟨res,h1,h2,VC.holds_mono hb k h3⟩
 |_,_,_,hb,.cond _ a b,h=>⟨fun hc=>VC.holds_mono hb a (h.1 hc),fun hc=>VC.holds_mono hb b (h.2 hc)⟩
 |_,_,_,hb,.amb _ a b,h=>⟨fun hc=>VC.holds_mono hb a (h.1 hc),VC.holds_mono hb b h.2⟩
 |_,_,_,_,.ret _,h=>h
 |_,_,_,hb,.loop _ k,h=>let ⟨I,μ,h1,h2⟩:=h;⟨I,μ,h1,fun vs hl hi=>VC.holds_mono (hb.snoc _) k (h2 vs hl hi)⟩
 |_,_,_,hb,.cut _ k r,h=>let ⟨I,h1,h2⟩:=h;⟨I,VC.holds_mono (hb.snoc _) k h1,fun vs hl hi=>VC.holds_mono hb r (h2 vs hl hi)⟩
 |B,B',ρ,hb,.back lvl es,h=>by
  simp only[VC.H_back,List.getD_eq_getElem?_getD] at h ⊢
  cases h1:B[lvl]? with
  |none=>rw[h1] at h;exact h.elim
  |some f=>
   rw[h1] at h
   have hlt:lvl<B'.length:=by
    have:=(List.getElem?_eq_some_iff.1 h1).1
    have:=hb.1
    omega
   rw[List.getElem?_eq_getElem hlt]
   exact hb.2 lvl f _ _ h1 (List.getElem?_eq_getElem hlt) h
section
variable {P:Program} {Post:List (Sh×C)→Prop} {B:List (List C→Prop)} {ρ:List C} {p:Pres} {e:E} {k a b:VC}
/-- Ways that meet again, with known values. -/
theorem VC.go_meet {n:Nat} {b r:VC} (vs0:List C) (h1:b.holds P Post (B++ [fun vs=>vs=vs0]) ρ) (h2:r.holds P Post B (ρ++vs0)):(VC.cut n b r).holds P Post B ρ:=⟨fun vs=>vs=vs0,h1,fun vs _ h=>by rw[h];exact h2⟩
/-- A loop: its states, what holds at its head, and what becomes less. -/
theorem VC.go_loop {init:List E} {St:Type} (enc:St→List C) (I:St→Prop) (μ:St→Nat) (s0:St) (h0:init.map (·.eval ρ)=enc s0) (hI:I s0)
  (h:∀s,I s→k.holds P Post (B++ [fun vs=>∃s',vs=enc s'∧I s'∧μ s'<μ s]) (ρ++enc s)):(VC.loop init k).holds P Post B ρ:=by
 classical
 let Q:List C→Nat→Prop:=fun vs m=>∃s,vs=enc s∧I s∧μ s=m
 have least:∀vs m,Q vs m→∃m0,Q vs m0∧∀m',Q vs m'→m0≤m':=by
  intro vs m
  induction m using Nat.strongRecOn with
  |ind m ih=>
   intro hm
   by_cases hx:∃m',m'<m∧Q vs m'
   ·obtain ⟨m',h1,h2⟩:=hx
    exact ih m' h1 h2
   ·exact ⟨m,hm,fun m' hm'=>Nat.le_of_not_lt fun hlt=>hx ⟨m',hlt,hm'⟩⟩
 let ν:List C→Nat:=fun vs=>if hx:∃m,Q vs m∧∀m',Q vs m'→m≤m' then Classical.choose hx else 0
 have hν:∀vs,(∃s,vs=enc s∧I s)→Q vs (ν vs)∧∀m',Q vs m'→ν vs≤m':=by
  rintro vs ⟨s,h1,h2⟩
  have hx:∃m,Q vs m∧∀m',Q vs m'→m≤m':=least vs (μ s) ⟨s,h1,h2,rfl⟩
  have he:ν vs=Classical.choose hx:=dif_pos hx
  rw[he]
  exact Classical.choose_spec hx
 refine ⟨fun vs=>∃s,vs=enc s∧I s,ν,⟨s0,h0,hI⟩,fun vs _ hvs=>?_⟩
 obtain ⟨⟨s,h1,h2,h3⟩,_⟩:=hν vs hvs
 have hs:=h s h2
 rw[←h1] at hs
 refine VC.holds_mono ?_ k hs
 refine ⟨by simp,fun i f g vs' hf hg hfv=>?_⟩
 by_cases hi:i<B.length
 ·rw[List.getElem?_append_left hi] at hf hg
  rw[hf] at hg
  cases hg
  exact hfv
 ·have hi':i=B.length:=by
   have:=(List.getElem?_eq_some_iff.1 hf).1
   simp at this
   omega
  subst hi'
  simp at hf hg
  subst hf hg
  obtain ⟨s',g1,g2,g3⟩:=hfv
  refine ⟨⟨s',g1,g2⟩,?_⟩
  have:=(hν vs' ⟨s',g1,g2⟩).2 (μ s') ⟨s',g1,g2,rfl⟩
  omega
end
theorem pres_nil (ρ:List C):presTrue ρ []=True:=by simp[presTrue]
theorem pres_cons (ρ:List C) (e:E) (b:Bool) (l:Pres):presTrue ρ ((e,b)::l)=((e.eval ρ).toBool=b∧presTrue ρ l):=by simp[presTrue]
section
variable {c:Prop} [Decidable c] {x y:C} {b:Bool}
theorem toBool_ite:(if c then x else y).toBool=if c then x.toBool else y.toBool:=by split<;>rfl
theorem toInt_ite:(if c then x else y).toInt=if c then x.toInt else y.toInt:=by split<;>rfl
theorem toList_ite:(if c then x else y).toList=if c then x.toList else y.toList:=by split<;>rfl
theorem toStr_ite:(if c then x else y).toStr=if c then x.toStr else y.toStr:=by split<;>rfl
theorem int_ite {a b:Int}:(if c then C.int a else C.int b)=C.int (if c then a else b):=by split<;>rfl
theorem bool_ite {a b:Bool}:(if c then C.bool a else C.bool b)=C.bool (if c then a else b):=by split<;>rfl
theorem ls_ite {a b:List C}:(if c then C.ls a else C.ls b)=C.ls (if c then a else b):=by split<;>rfl
theorem str_ite {a b:List UInt8}:(if c then C.str a else C.str b)=C.str (if c then a else b):=by split<;>rfl
theorem orT:((if c then true else b)=true)=(c∨b=true):=by by_cases h:c<;>simp[h]
theorem orF:((if c then true else b)=false)=(¬c∧b=false):=by by_cases h:c<;>simp[h]
theorem andT:((if c then b else false)=true)=(c∧b=true):=by by_cases h:c<;>simp[h]
theorem andF:((if c then b else false)=false)=(¬c∨b=false):=by by_cases h:c<;>simp[h]
theorem notT:((!b)=true)=(b=false):=by cases b<;>simp
theorem notF:((!b)=false)=(b=true):=by cases b<;>simp
theorem nnE {α:Type} {a b:α}:(¬a≠b)=(a=b):=by simp
end
/-! Expressions: for simp; steps of their own in the proof (the kernel is quicker so than by computing). -/
section
variable (ρ:List C) (x y z:E) (n:Int)
theorem ev_var (i:Nat):(E.var i).eval ρ=ρ.getD i default:=id rfl
theorem ev_int:(E.int n).eval ρ= .int n:=id rfl
theorem ev_bool (b:Bool):(E.bool b).eval ρ= .bool b:=id rfl
theorem ev_str (s:List UInt8):(E.str s).eval ρ= .str s:=id rfl
theorem ev_nil:E.nil.eval ρ= .ls []:=id rfl
theorem ev_nilS:E.nilS.eval ρ= .ls []:=id rfl
theorem ev_cons:(E.cons x y).eval ρ= .ls (x.eval ρ::(y.eval ρ).toList):=id rfl
theorem ev_hd:(E.hd x).eval ρ=(x.eval ρ).hd:=id rfl
theorem ev_tl:(E.tl x).eval ρ=(x.eval ρ).tl:=id rfl
theorem ev_fset (j:Nat):(E.fset j x y).eval ρ=(x.eval ρ).fset j (y.eval ρ):=id rfl
theorem ev_bin (o:BinOp) (k:IntKind):(E.bin o k x y).eval ρ= .int (arith o k (x.eval ρ).toInt (y.eval ρ).toInt):=id rfl
theorem ev_add:(E.raw .add x y).eval ρ= .int ((x.eval ρ).toInt+(y.eval ρ).toInt):=id rfl
theorem ev_sub':(E.raw .sub x y).eval ρ= .int ((x.eval ρ).toInt-(y.eval ρ).toInt):=id rfl
theorem ev_mul:(E.raw .mul x y).eval ρ= .int ((x.eval ρ).toInt*(y.eval ρ).toInt):=id rfl
theorem ev_eql:(E.cmp .eql x y).eval ρ= .bool (decide ((x.eval ρ).toInt=(y.eval ρ).toInt)):=by simp[E.eval,cmpI,BEq.beq]
theorem ev_neq:(E.cmp .neq x y).eval ρ= .bool (decide ((x.eval ρ).toInt≠(y.eval ρ).toInt)):=by simp[E.eval,cmpI,bne,BEq.beq]
theorem ev_lss:(E.cmp .lss x y).eval ρ= .bool (decide ((x.eval ρ).toInt<(y.eval ρ).toInt)):=id rfl
theorem ev_leq:(E.cmp .leq x y).eval ρ= .bool (decide ((x.eval ρ).toInt≤(y.eval ρ).toInt)):=id rfl
theorem ev_gtr:(E.cmp .gtr x y).eval ρ= .bool (decide ((y.eval ρ).toInt<(x.eval ρ).toInt)):=id rfl
theorem ev_geq:(E.cmp .geq x y).eval ρ= .bool (decide ((y.eval ρ).toInt≤(x.eval ρ).toInt)):=id rfl
theorem ev_seql:(E.scmp .eql x y).eval ρ= .bool (decide ((x.eval ρ).toStr=(y.eval ρ).toStr)):=by
 simp only[E.eval,cmpS];congr 1;by_cases h:(x.eval ρ).toStr=(y.eval ρ).toStr<;>simp[h]
theorem ev_sneq:(E.scmp .neq x y).eval ρ= .bool (decide ((x.eval ρ).toStr≠(y.eval ρ).toStr)):=by
 simp only[E.eval,cmpS];congr 1;by_cases h:(x.eval ρ).toStr=(y.eval ρ).toStr<;>simp[h]
theorem ev_beq:(E.beq x y).eval ρ= .bool (decide ((x.eval ρ).toBool=(y.eval ρ).toBool)):=by
 simp only[E.eval];congr 1
theorem ev_not:(E.not x).eval ρ= .bool !(x.eval ρ).toBool:=id rfl
theorem ev_ite:(E.ite x y z).eval ρ=if (x.eval ρ).toBool=true then y.eval ρ else z.eval ρ:=id rfl
theorem ev_conv (k:IntKind):(E.conv k x).eval ρ= .int (k.wrap (x.eval ρ).toInt):=id rfl
theorem ev_xorK (k:IntKind):(E.xorK k x).eval ρ= .int (k.wrap (BitVec.ofInt k.bits (if k.signed then-1 else k.max)^^^BitVec.ofInt k.bits (x.eval ρ).toInt).toNat):=id rfl
theorem ev_len:(E.len x).eval ρ= .int (x.eval ρ).toList.length:=id rfl
theorem ev_slen:(E.slen x).eval ρ= .int (x.eval ρ).toStr.length:=id rfl
theorem ev_idx:(E.idx x y).eval ρ=(x.eval ρ).toList.getD (y.eval ρ).toInt.toNat default:=id rfl
theorem ev_sidx:(E.sidx x y).eval ρ= .int ((x.eval ρ).toStr.getD (y.eval ρ).toInt.toNat 0).toNat:=id rfl
theorem ev_sub:(E.sub x y z).eval ρ= .ls (((x.eval ρ).toList.take (z.eval ρ).toInt.toNat).drop (y.eval ρ).toInt.toNat):=id rfl
theorem ev_ssub:(E.ssub x y z).eval ρ= .str (((x.eval ρ).toStr.take (z.eval ρ).toInt.toNat).drop (y.eval ρ).toInt.toNat):=id rfl
theorem ev_app:(E.app x y).eval ρ= .ls ((x.eval ρ).toList++(y.eval ρ).toList):=id rfl
theorem ev_set:(E.set x y z).eval ρ= .ls ((x.eval ρ).toList.set (y.eval ρ).toInt.toNat (z.eval ρ)):=id rfl
theorem ev_rep:(E.rep x y).eval ρ= .ls (List.replicate (x.eval ρ).toInt.toNat (y.eval ρ)):=id rfl
theorem ev_splice:(E.splice x y z).eval ρ= .ls (Vc.splice (x.eval ρ).toList (y.eval ρ).toInt.toNat (z.eval ρ).toList):=id rfl
theorem ev_toStr:(E.toStr x).eval ρ= .str (bytesOf (x.eval ρ).toList):=id rfl
theorem ev_ofStr:(E.ofStr x).eval ρ= .ls (ofBytes (x.eval ρ).toStr):=id rfl
theorem ev_cat:(E.cat x y).eval ρ= .str ((x.eval ρ).toStr++(y.eval ρ).toStr):=id rfl
theorem ev_minI:(E.minI x y).eval ρ= .int (min (x.eval ρ).toInt (y.eval ρ).toInt):=id rfl
theorem ev_maxI:(E.maxI x y).eval ρ= .int (max (x.eval ρ).toInt (y.eval ρ).toInt):=id rfl
theorem ev_deq (s:Sh):(E.deq s x y).eval ρ= .bool (dataEq s (x.eval ρ) (y.eval ρ)):=id rfl
theorem ev_fits64:(E.fits .i64 x).eval ρ= .bool (decide (-9223372036854775808≤(x.eval ρ).toInt∧(x.eval ρ).toInt≤9223372036854775807)):=id rfl
theorem ev_mget:(E.mget x y z).eval ρ=(match mfind (x.eval ρ).toList (y.eval ρ).toInt with|some d=>d.tl.hd|none=>z.eval ρ):=id rfl
theorem ev_mhas:(E.mhas x y).eval ρ= .bool (mfind (x.eval ρ).toList (y.eval ρ).toInt).isSome:=id rfl
theorem ev_mput:(E.mput x y z).eval ρ= .ls (mset (x.eval ρ).toList (y.eval ρ).toInt (z.eval ρ)):=id rfl
theorem ev_drune:(E.drune x y).eval ρ= .int (Utf8.decode ⟨(x.eval ρ).toStr.toArray⟩ (y.eval ρ).toInt.toNat).1:=id rfl
theorem ev_dwid:(E.dwid x y).eval ρ= .int (Utf8.decode ⟨(x.eval ρ).toStr.toArray⟩ (y.eval ρ).toInt.toNat).2:=id rfl
theorem ea_nil:evalArgs ρ []=[]:=id rfl
theorem ea_cons (s:Sh) (l:List (Sh×E)):evalArgs ρ ((s,x)::l)=(s,x.eval ρ)::evalArgs ρ l:=id rfl
theorem v_int:(C.int n).toInt=n:=id rfl
theorem v_bool (b:Bool):(C.bool b).toBool=b:=id rfl
theorem v_str (s:List UInt8):(C.str s).toStr=s:=id rfl
theorem v_ls (l:List C):(C.ls l).toList=l:=id rfl
theorem v_hd (c:C) (l:List C):(C.ls (c::l)).hd=c:=id rfl
theorem v_tl (c:C) (l:List C):(C.ls (c::l)).tl= .ls l:=id rfl
theorem env_zero {α:Type} (a d:α) (l:List α):(a::l).getD 0 d=a:=id rfl
theorem env_succ {α:Type} (a d:α) (l:List α) (n:Nat):(a::l).getD (n+1) d=l.getD n d:=id rfl
theorem env_cons {α:Type} (a:α) (l m:List α):(a::l)++m=a::(l++m):=id rfl
theorem env_nil {α:Type} (l:List α): []++l=l:=id rfl
end
@[simp] theorem wrapu8 (n:Int):IntKind.u8.wrap n=n%256:=by simp[IntKind.wrap,IntKind.bits,IntKind.signed]
@[simp] theorem wrapu16 (n:Int):IntKind.u16.wrap n=n%65536:=by simp[IntKind.wrap,IntKind.bits,IntKind.signed]
@[simp] theorem wrapu32 (n:Int):IntKind.u32.wrap n=n%4294967296:=by simp[IntKind.wrap,IntKind.bits,IntKind.signed]
@[simp] theorem wrapu64 (n:Int):IntKind.u64.wrap n=n%18446744073709551616:=by simp[IntKind.wrap,IntKind.bits,IntKind.signed]
theorem wrapi64 (n:Int):IntKind.i64.wrap n=(n+9223372036854775808)%18446744073709551616-9223372036854775808:=by
 simp[IntKind.wrap,IntKind.bits,IntKind.signed];split<;>omega
theorem wrapi64_in {n:Int} (h: -9223372036854775808≤n∧n<9223372036854775808):IntKind.i64.wrap n=n:=by rw[wrapi64];omega
@[simp] theorem mini64:IntKind.i64.min= -9223372036854775808:=rfl
@[simp] theorem maxi64:IntKind.i64.max=9223372036854775807:=rfl
@[simp] theorem arith_add (k:IntKind) (x y:Int):arith .add k x y=k.wrap (x+y):=rfl
@[simp] theorem arith_sub (k:IntKind) (x y:Int):arith .sub k x y=k.wrap (x-y):=rfl
@[simp] theorem arith_mul (k:IntKind) (x y:Int):arith .mul k x y=k.wrap (x*y):=rfl
theorem arith_rem (k:IntKind) (x y:Int) (h:0≤x):arith .rem k x y=x%y:=by simp only[arith];rw[Int.tmod_eq_emod_of_nonneg h]
theorem arith_shl (k:IntKind) (x y:Int):arith .shl k x y=k.wrap (x*2^(min y.toNat k.bits)):=rfl
theorem arith_shr (k:IntKind) (x y:Int):arith .shr k x y=x/2^(min y.toNat k.bits):=by
 simp only[arith];exact Int.fdiv_eq_ediv_of_nonneg _ (Int.pow_nonneg (by decide))
theorem ofInt_nat (w a:Nat):BitVec.ofInt w (a:Int)=BitVec.ofNat w a:=BitVec.ofInt_natCast w a
theorem wrap_nat {k:IntKind} {n:Nat} (h:n<2^(k.bits-1)):k.wrap (n:Int)=n:=by
 cases k<;>simp[IntKind.wrap,IntKind.bits,IntKind.signed] at h ⊢ <;>omega
theorem wrapU_nat {k:IntKind} (hs:k.signed=false) {n:Nat} (h:n<2^k.bits):k.wrap (n:Int)=n:=by
 cases k<;>simp[IntKind.wrap,IntKind.bits,IntKind.signed] at h hs ⊢ <;>omega
section
variable {k:IntKind} {a b:Nat}
theorem and_nat (ha:a<2^k.bits) (hb:b<2^k.bits):(BitVec.ofInt k.bits (a:Int)&&&BitVec.ofInt k.bits (b:Int)).toNat=a&&&b:=by
 rw[ofInt_nat,ofInt_nat,BitVec.toNat_and,BitVec.toNat_ofNat,BitVec.toNat_ofNat,Nat.mod_eq_of_lt ha,Nat.mod_eq_of_lt hb]
theorem or_nat (ha:a<2^k.bits) (hb:b<2^k.bits):(BitVec.ofInt k.bits (a:Int)|||BitVec.ofInt k.bits (b:Int)).toNat=a|||b:=by
 rw[ofInt_nat,ofInt_nat,BitVec.toNat_or,BitVec.toNat_ofNat,BitVec.toNat_ofNat,Nat.mod_eq_of_lt ha,Nat.mod_eq_of_lt hb]
/-- Unsigned. -/
theorem arith_andU (hs:k.signed=false) (ha:a<2^k.bits) (hb:b<2^k.bits):arith .and k a b=((a&&&b:Nat):Int):=by
 simp only[arith,and_nat ha hb];exact wrapU_nat hs (Nat.and_lt_two_pow _ hb)
theorem arith_orU (hs:k.signed=false) (ha:a<2^k.bits) (hb:b<2^k.bits):arith .or k a b=((a|||b:Nat):Int):=by
 simp only[arith,or_nat ha hb];exact wrapU_nat hs (Nat.or_lt_two_pow ha hb)
theorem half_lt (h:a<2^(k.bits-1)):a<2^k.bits:=Nat.lt_of_lt_of_le h (Nat.pow_le_pow_right (by decide) (Nat.sub_le _ _))
theorem arith_orH (ha:a<2^(k.bits-1)) (hb:b<2^(k.bits-1)):arith .or k a b=((a|||b:Nat):Int):=by
 simp only[arith,or_nat (half_lt ha) (half_lt hb)];exact wrap_nat (Nat.or_lt_two_pow ha hb)
end
/-! Bytes. -/
abbrev B (b:List UInt8):C:= .ls (ofBytes b)
def u8 (x:Int):UInt8:=UInt8.ofNat (x%256).toNat
@[simp] theorem ofBytes_nil:ofBytes []=[]:=rfl
@[simp] theorem ofBytes_length (b:List UInt8):(ofBytes b).length=b.length:=by simp[ofBytes]
theorem ofBytes_take (b:List UInt8) (n:Nat):(ofBytes b).take n=ofBytes (b.take n):=by simp[ofBytes]
theorem ofBytes_drop (b:List UInt8) (n:Nat):(ofBytes b).drop n=ofBytes (b.drop n):=by simp[ofBytes]
theorem ofBytes_append (a b:List UInt8):ofBytes a++ofBytes b=ofBytes (a++b):=by simp[ofBytes]
theorem ofBytes_rep (n:Nat):List.replicate n (C.int 0)=ofBytes (List.replicate n 0):=by simp[ofBytes]
theorem ofBytes_set' (b:List UInt8) (i:Nat) (x:UInt8):(ofBytes b).set i (.int x.toNat)=ofBytes (b.set i x):=by
 simp[ofBytes,List.map_set]
theorem ofBytes_getD (b:List UInt8) (i:Nat):(ofBytes b).getD i default= .int (b.getD i 0).toNat:=by
 simp only[ofBytes,List.getD,List.getElem?_map]
 cases b[i]?<;>rfl
theorem ofBytes_splice (b m:List UInt8) (i:Nat):splice (ofBytes b) i (ofBytes m)=ofBytes (splice b i m):=by simp[splice,ofBytes]
@[simp] theorem bytesOf_ofBytes (b:List UInt8):bytesOf (ofBytes b)=b:=by
 simp only[bytesOf,ofBytes,List.map_map]
 conv=>rhs;rw[←List.map_id b]
 apply List.map_congr_left
 intro x _
 simp
@[simp] theorem bytesOf_nil:bytesOf []=[]:=rfl
theorem getD_toNat_lt (b:List UInt8) (i:Nat):(b.getD i 0).toNat<256:=UInt8.toNat_lt _
@[simp] theorem cmpS_eql (a b:List UInt8):cmpS .eql a b=decide (a=b):=by
 by_cases h:a=b
 ·simp[cmpS,h]
 ·simp[cmpS,h]
@[simp] theorem cmpS_neq (a b:List UInt8):cmpS .neq a b=decide (a≠b):=by
 by_cases h:a=b
 ·simp[cmpS,h]
 ·simp[cmpS,h]
/-! Numbers that are not negative. -/
abbrev ofNats (l:List Nat):List C:=l.map fun n:Nat=> .int (n:Int)
abbrev Ns (l:List Nat):C:= .ls (ofNats l)
theorem ofNats_getD (l:List Nat) (i:Nat) (h:i<l.length):(ofNats l).getD i default= .int (l.getD i 0:Nat):=by
 simp[List.getD,h]
theorem ofNats_snoc (l:List Nat) (n:Nat):ofNats l++ [.int (n:Int)]=ofNats (l++ [n]):=by simp
theorem byte_nat (v:Nat):IntKind.u8.wrap (v:Int)=((UInt8.ofNat v).toNat:Int):=by
 simp only[wrapu8,UInt8.toNat_ofNat']
 omega
theorem ty_list {α:Type} {e:α→C} {P:α→Prop}:∀ {l:List C},(∀x∈l,∃a,x=e a∧P a)→∃bs:List α,l=bs.map e∧∀a∈bs,P a
 | [],_=>⟨[],rfl,by simp⟩
 |x::l,h=>by
  obtain ⟨a,h1,h2⟩:=h x (by simp)
  obtain ⟨bs,h3,h4⟩:=ty_list (l:=l) fun y hy=>h y (by simp[hy])
  exact ⟨a::bs,by simp[h1,h3],by simpa using ⟨h2,h4⟩⟩
end Go.Vc

namespace Go.Vc
open Go
theorem sEV:(type_of% @ev_var)∧(type_of% @ev_int)∧(type_of% @ev_bool)∧(type_of% @ev_str)∧(type_of% @ev_nil)∧(type_of% @ev_nilS)∧(type_of% @ev_cons)∧(type_of% @ev_hd)∧(type_of% @ev_tl)∧(type_of% @ev_fset)∧(type_of% @ev_bin)∧(type_of% @ev_add)∧(type_of% @ev_sub')∧(type_of% @ev_mul)∧(type_of% @ev_eql)∧(type_of% @ev_neq)∧(type_of% @ev_lss)∧(type_of% @ev_leq)∧(type_of% @ev_gtr)∧(type_of% @ev_geq)∧(type_of% @ev_seql)∧(type_of% @ev_sneq)∧(type_of% @ev_beq)∧(type_of% @ev_not)∧(type_of% @ev_ite)∧(type_of% @ev_conv)∧(type_of% @ev_xorK)∧(type_of% @ev_len)∧(type_of% @ev_slen)∧(type_of% @ev_idx)∧(type_of% @ev_sidx)∧(type_of% @ev_sub)∧(type_of% @ev_ssub)∧(type_of% @ev_app)∧(type_of% @ev_set)∧(type_of% @ev_rep)∧(type_of% @ev_splice)∧(type_of% @ev_toStr)∧(type_of% @ev_ofStr)∧(type_of% @ev_cat)∧(type_of% @ev_minI)∧(type_of% @ev_maxI)∧(type_of% @ev_deq)∧(type_of% @ev_fits64)∧(type_of% @ev_mget)∧(type_of% @ev_mhas)∧(type_of% @ev_mput)∧(type_of% @ev_drune)∧(type_of% @ev_dwid)∧(type_of% @ea_nil)∧(type_of% @ea_cons):=⟨@ev_var, @ev_int, @ev_bool, @ev_str, @ev_nil, @ev_nilS, @ev_cons, @ev_hd, @ev_tl, @ev_fset, @ev_bin, @ev_add, @ev_sub', @ev_mul, @ev_eql, @ev_neq, @ev_lss, @ev_leq, @ev_gtr, @ev_geq, @ev_seql, @ev_sneq, @ev_beq, @ev_not, @ev_ite, @ev_conv, @ev_xorK, @ev_len, @ev_slen, @ev_idx, @ev_sidx, @ev_sub, @ev_ssub, @ev_app, @ev_set, @ev_rep, @ev_splice, @ev_toStr, @ev_ofStr, @ev_cat, @ev_minI, @ev_maxI, @ev_deq, @ev_fits64, @ev_mget, @ev_mhas, @ev_mput, @ev_drune, @ev_dwid, @ea_nil, @ea_cons⟩
theorem sENV:(type_of% @env_zero)∧(type_of% @env_succ)∧(type_of% @env_cons)∧(type_of% @env_nil)∧(type_of% @List.map_cons.{0,0})∧(type_of% @List.map_nil.{0,0})∧(type_of% @List.zip_cons_cons.{0,0})∧(type_of% @List.zip_nil_right.{0,0})∧(type_of% @List.zip_nil_left.{0,0}):=⟨@env_zero, @env_succ, @env_cons, @env_nil, @List.map_cons.{0,0}, @List.map_nil.{0,0}, @List.zip_cons_cons.{0,0}, @List.zip_nil_right.{0,0}, @List.zip_nil_left.{0,0}⟩
theorem sVAL:(type_of% @v_int)∧(type_of% @v_bool)∧(type_of% @v_str)∧(type_of% @v_ls)∧(type_of% @v_hd)∧(type_of% @v_tl)∧(type_of% @toBool_ite)∧(type_of% @toInt_ite)∧(type_of% @toList_ite)∧(type_of% @toStr_ite)∧(type_of% @int_ite)∧(type_of% @bool_ite)∧(type_of% @ls_ite)∧(type_of% @str_ite):=⟨@v_int, @v_bool, @v_str, @v_ls, @v_hd, @v_tl, @toBool_ite, @toInt_ite, @toList_ite, @toStr_ite, @int_ite, @bool_ite, @ls_ite, @str_ite⟩
theorem sVC:(type_of% @VC.H_asrt)∧(type_of% @VC.H_cond)∧(type_of% @VC.H_amb)∧(type_of% @VC.H_ret)∧(type_of% @VC.H_back)∧(type_of% @VC.H_call1)∧(type_of% @VC.H_call2)∧(type_of% @VC.H_call3):=⟨@VC.H_asrt, @VC.H_cond, @VC.H_amb, @VC.H_ret, @VC.H_back, @VC.H_call1, @VC.H_call2, @VC.H_call3⟩
theorem sBO:(type_of% @pres_nil)∧(type_of% @pres_cons)∧(type_of% @orT)∧(type_of% @orF)∧(type_of% @andT)∧(type_of% @andF)∧(type_of% @notT)∧(type_of% @notF)∧(type_of% @nnE)∧(type_of% @decide_eq_true_eq)∧(type_of% @decide_eq_false_iff_not)∧(type_of% @true_implies)∧(type_of% @and_true)∧(type_of% @true_and)∧(type_of% @mini64)∧(type_of% @maxi64)∧(type_of% @gt_iff_lt.{0})∧(type_of% @ge_iff_le.{0})∧(type_of% @Int.not_lt)∧(type_of% @Int.not_le):=⟨@pres_nil, @pres_cons, @orT, @orF, @andT, @andF, @notT, @notF, @nnE, @decide_eq_true_eq, @decide_eq_false_iff_not, @true_implies, @and_true, @true_and, @mini64, @maxi64, @gt_iff_lt.{0}, @ge_iff_le.{0}, @Int.not_lt, @Int.not_le⟩
end Go.Vc

/-
  Plain: numbers in bytes, the highest first.
-/
namespace Go.Plain
/-- The number that the bytes are. -/
def be (l:List UInt8):Nat:=l.foldl (fun v x=>v*256+x.toNat) 0
/-- The n lowest bytes of a number. -/
def toBE:Nat→Nat→List UInt8
 |0,_=> []
 |n+1,v=>toBE n (v/256)++ [UInt8.ofNat v]
theorem snocInd {α:Type} {P:List α→Prop} (nil:P []) (snoc:∀l x,P l→P (l++ [x])) (l:List α):P l:=by
 have h:∀(n:Nat) (l:List α),l.length=n→P l:=by
  intro n
  induction n with
  |zero=>intro l hl;rw[List.length_eq_zero_iff.1 hl];exact nil
  |succ n ih=>
   intro l hl
   rcases List.eq_nil_or_concat l with rfl|⟨m,x,rfl⟩
   ·simp at hl
   ·rw[List.concat_eq_append] at hl ⊢
    exact snoc m x (ih m (by simpa using hl))
 exact h _ l rfl
@[simp] theorem be_nil:be []=0:=rfl
@[simp] theorem be_snoc (l:List UInt8) (x:UInt8):be (l++ [x])=be l*256+x.toNat:=by simp[be]
theorem be_lt (l:List UInt8):be l<256^l.length:=by
 induction l using snocInd with
 |nil=>simp
 |snoc l x ih=>
  have:=x.toNat_lt
  simp only[be_snoc,List.length_append,List.length_singleton,Nat.pow_succ]
  omega
@[simp] theorem toBE_length:∀(n v:Nat),(toBE n v).length=n
 |0,_=>rfl
 |n+1,v=>by simp[toBE,toBE_length n]
theorem be_toBE:∀(n v:Nat),be (toBE n v)=v%256^n
 |0,v=>by simp[toBE,Nat.mod_one]
 |n+1,v=>by
  simp only[toBE,be_snoc,be_toBE n,UInt8.toNat_ofNat']
  have h:256^(n+1)=256*256^n:=by rw[Nat.pow_succ,Nat.mul_comm]
  rw[h,Nat.mod_mul]
  omega
theorem toBE_be:∀(n:Nat) (l:List UInt8),l.length=n→toBE n (be l)=l
 |0,l,h=>by rw[List.length_eq_zero_iff.1 h];rfl
 |n+1,l,h=>by
  rcases List.eq_nil_or_concat l with rfl|⟨m,x,rfl⟩
  ·simp at h
  ·simp only[List.concat_eq_append] at h ⊢
   have hx:=x.toNat_lt
   have h1:(be m*256+x.toNat)/256=be m:=by omega
   simp only[toBE,be_snoc,h1]
   rw[toBE_be n m (by simpa using h)]
   congr 2
   apply UInt8.toNat_inj.1
   simp only[UInt8.toNat_ofNat']
   omega
theorem toBE_cons:∀(n v:Nat),toBE (n+1) v=UInt8.ofNat (v/256^n)::toBE n v
 |0,v=>by simp[toBE]
 |n+1,v=>by
  rw[toBE,toBE_cons n,toBE]
  simp only[List.cons_append,Nat.pow_succ,Nat.div_div_eq_div_mul]
  rw[Nat.mul_comm]
theorem or_add (a k b:Nat) (h:b<2^k):a*2^k|||b=a*2^k+b:=by
 rw[←Nat.shiftLeft_eq,Nat.shiftLeft_add_eq_or_of_lt h]
theorem be_take_succ (l:List UInt8) (i:Nat) (h:i<l.length):be (l.take (i+1))=be (l.take i)*256+(l.getD i 0).toNat:=by
 rw[List.take_succ_eq_append_getElem h,be_snoc]
 simp[List.getD,h]
theorem be_take_lt (l:List UInt8) (i:Nat):be (l.take i)<256^i:=by
 refine Nat.lt_of_lt_of_le (be_lt _) (Nat.pow_le_pow_right (by decide) ?_)
 simp
 omega
theorem take_drop (l:List UInt8) (a n:Nat):(l.take (a+n)).drop a=(l.drop a).take n:=by
 rw[List.drop_take,Nat.add_sub_cancel_left]
end Go.Plain

namespace Go.Plain
structure Hd where
 pad:Bool
 ext:Bool
 mark:Bool
 typ:Int
 seq:Nat
 time:Nat
 ssrc:Nat
 csrc:List Nat
 deriving DecidableEq
def Hd.zero:Hd:=⟨false,false,false,0,0,0,0,[]⟩
def Hd.ok (h:Hd):Prop:=h.seq<65536∧h.time<4294967296∧h.ssrc<4294967296∧∀c∈h.csrc,c<4294967296
def Hd.right (h:Hd):Prop:=0≤h.typ∧h.typ<128∧h.csrc.length<16
instance (h:Hd):Decidable h.right:=by unfold Hd.right;exact inferInstance
def Hd.first (h:Hd):Nat:=128+32*h.pad.toNat+16*h.ext.toNat+h.csrc.length
def Hd.second (h:Hd):Nat:=128*h.mark.toNat+h.typ.toNat
def words (l:List Nat):List UInt8:=(l.map (toBE 4)).flatten
def Hd.bytes (h:Hd):List UInt8:=UInt8.ofNat h.first::UInt8.ofNat h.second::(toBE 2 h.seq++(toBE 4 h.time++(toBE 4 h.ssrc++words h.csrc)))
def at_ (b:List UInt8) (i:Nat):Nat:=(b.getD i 0).toNat
def num (b:List UInt8) (i n:Nat):Nat:=be ((b.drop i).take n)
def Hd.of (b:List UInt8):Hd:=
 {pad:=decide (at_ b 0/32%2=1),ext:=decide (at_ b 0/16%2=1),mark:=decide (128≤at_ b 1),typ:=((at_ b 1%128:Nat):Int),seq:=num b 2 2,time:=num b 4 4,ssrc:=num b 8 4,
  csrc:=(List.range (at_ b 0%16)).map fun i=>num b (12+4*i) 4}
def hdE (b:List UInt8):Int:=if b.length<12 then 2 else if at_ b 0/64≠2 then 3 else if b.length<12+4*(at_ b 0%16) then 2 else 0
def hdN (b:List UInt8):Nat:=if hdE b=0 then 12+4*(at_ b 0%16) else 0
def hdH (b:List UInt8):Hd:=if hdE b=0 then Hd.of b else Hd.zero
theorem hdE_zero {b:List UInt8}:hdE b=0↔12≤b.length∧at_ b 0/64=2∧12+4*(at_ b 0%16)≤b.length:=by
 unfold hdE
 split
 ·simp;omega
 ·split
  ·simp;omega
  ·split<;>simp<;>omega
theorem words_length (l:List Nat):(words l).length=4*l.length:=by
 induction l with
 |nil=>rfl
 |cons x l ih=>simp only[words,List.map_cons,List.flatten_cons,List.length_append,toBE_length,List.length_cons] at ih ⊢;omega
theorem Hd.bytes_length (h:Hd):h.bytes.length=12+4*h.csrc.length:=by
 simp[Hd.bytes,words_length];omega
theorem at_lt (b:List UInt8) (i:Nat):at_ b i<256:=UInt8.toNat_lt _
theorem num_lt (b:List UInt8) (i n:Nat):num b i n<256^n:=be_take_lt _ _
theorem num_app {a b c:List UInt8} {n:Nat} (h:b.length=n):num (a++(b++c)) a.length n=be b:=by
 simp only[num]
 rw[List.drop_append,List.drop_of_length_le (Nat.le_refl _)]
 simp[←h]
theorem num_drop (a b:List UInt8) (i n:Nat):num (a++b) (a.length+i) n=num b i n:=by
 simp only[num]
 rw[←List.drop_drop,List.drop_left]
theorem words_num:∀(l:List Nat) (r:List UInt8),(∀c∈l,c<4294967296)→((List.range l.length).map fun i=>num (words l++r) (4*i) 4)=l
 | [],_,_=>rfl
 |x::l,r,h=>by
  have h1:=h x (by simp)
  rw[List.length_cons,List.range_succ_eq_map,List.map_cons,List.map_map]
  have e1:num (words (x::l)++r) (4*0) 4=x:=by
   have:=num_app (a:=[]) (b:=toBE 4 x) (c:=words l++r) (n:=4) (toBE_length _ _)
   simp only[words,List.map_cons,List.flatten_cons,List.append_assoc] at this ⊢
   simp only[List.nil_append,List.length_nil] at this
   rw[Nat.mul_zero,this,be_toBE]
   omega
  have e2:((fun i=>num (words (x::l)++r) (4*i) 4)∘Nat.succ)=fun i=>num (words l++r) (4*i) 4:=by
   funext i
   have:=num_drop (toBE 4 x) (words l++r) (4*i) 4
   rw[toBE_length] at this
   simp only[Function.comp,words,List.map_cons,List.flatten_cons,List.append_assoc] at this ⊢
   rw[←this]
   congr 1
   omega
  rw[e1,e2,words_num l r (fun c hc=>h c (by simp[hc]))]
theorem num_at {b:List UInt8} {i n:Nat} (h:i+n≤b.length):toBE n (num b i n)=(b.drop i).take n:=by
 apply toBE_be
 simp;omega
/-- A header is read from its bytes as it was. -/
theorem Hd.back (h:Hd) (hr:h.right) (ho:h.ok) (r:List UInt8):hdE (h.bytes++r)=0∧Hd.of (h.bytes++r)=h∧at_ (h.bytes++r) 0%16=h.csrc.length:=by
 obtain ⟨r1,r2,r3⟩:=hr
 obtain ⟨o1,o2,o3,o4⟩:=ho
 have a0:at_ (h.bytes++r) 0=h.first:=by
  simp only[at_,Hd.bytes,List.cons_append,List.getD_cons_zero,UInt8.toNat_ofNat']
  apply Nat.mod_eq_of_lt
  simp only[Hd.first]
  cases h.pad<;>cases h.ext<;>simp<;>omega
 have a1:at_ (h.bytes++r) 1=h.second:=by
  simp only[at_,Hd.bytes,List.cons_append,List.getD_cons_succ,List.getD_cons_zero,UInt8.toNat_ofNat']
  apply Nat.mod_eq_of_lt
  simp only[Hd.second]
  cases h.mark<;>simp<;>omega
 have hn:at_ (h.bytes++r) 0%16=h.csrc.length:=by
  rw[a0]
  simp only[Hd.first]
  cases h.pad<;>cases h.ext<;>simp<;>omega
 refine ⟨?_,?_,hn⟩
 ·rw[hdE_zero,hn,List.length_append,Hd.bytes_length,a0]
  refine ⟨by omega,?_,by omega⟩
  simp only[Hd.first]
  cases h.pad<;>cases h.ext<;>simp<;>omega
 ·have s1:num (h.bytes++r) 2 2=h.seq:=by
   have:=num_app (a:=[UInt8.ofNat h.first,UInt8.ofNat h.second]) (b:=toBE 2 h.seq) (c:=toBE 4 h.time++(toBE 4 h.ssrc++(words h.csrc++r))) (n:=2) (toBE_length _ _)
   rw[be_toBE,Nat.mod_eq_of_lt (by omega)] at this
   rw[←this]
   simp[Hd.bytes]
  have s2:num (h.bytes++r) 4 4=h.time:=by
   have:=num_app (a:=[UInt8.ofNat h.first,UInt8.ofNat h.second]++toBE 2 h.seq) (b:=toBE 4 h.time) (c:=toBE 4 h.ssrc++(words h.csrc++r)) (n:=4) (toBE_length _ _)
   rw[be_toBE,Nat.mod_eq_of_lt (by omega)] at this
   rw[←this]
   simp[Hd.bytes]
  have s3:num (h.bytes++r) 8 4=h.ssrc:=by
   have:=num_app (a:=[UInt8.ofNat h.first,UInt8.ofNat h.second]++(toBE 2 h.seq++toBE 4 h.time)) (b:=toBE 4 h.ssrc) (c:=words h.csrc++r) (n:=4) (toBE_length _ _)
   rw[be_toBE,Nat.mod_eq_of_lt (by omega)] at this
   rw[←this]
   simp[Hd.bytes]
  have s4:((List.range (at_ (h.bytes++r) 0%16)).map fun i=>num (h.bytes++r) (12+4*i) 4)=h.csrc:=by
   rw[hn]
   have e:(fun i=>num (h.bytes++r) (12+4*i) 4)=fun i=>num (words h.csrc++r) (4*i) 4:=by
    funext i
    have:=num_drop ([UInt8.ofNat h.first,UInt8.ofNat h.second]++(toBE 2 h.seq++(toBE 4 h.time++toBE 4 h.ssrc))) (words h.csrc++r) (4*i) 4
    rw[←this]
    simp[Hd.bytes]
   rw[e]
   exact words_num _ _ o4
  have p1:(h.first/32%2=1)=(h.pad=true):=by
   simp only[Hd.first]
   cases h.pad<;>cases h.ext<;>simp<;>omega
  have p2:(h.first/16%2=1)=(h.ext=true):=by
   simp only[Hd.first]
   cases h.pad<;>cases h.ext<;>simp<;>omega
  have p3:(128≤h.second)=(h.mark=true):=by
   simp only[Hd.second]
   cases h.mark<;>simp<;>omega
  have p4:((h.second%128:Nat):Int)=h.typ:=by
   simp only[Hd.second]
   cases h.mark<;>simp<;>omega
  rw[hn] at s4
  simp only[Hd.of,hn,s1,s2,s3,s4]
  rw[a0,a1]
  simp only[p1,p2,p3,p4,Bool.decide_eq_true]
theorem take_cons2 (b:List UInt8) (h:12≤b.length):b=UInt8.ofNat (at_ b 0)::UInt8.ofNat (at_ b 1)::b.drop 2:=by
 match b,h with
 |x::y::l,_=>
  simp[at_]
theorem words_take (b:List UInt8):∀n:Nat,4*n≤b.length→words ((List.range n).map fun i=>num b (4*i) 4)=b.take (4*n)
 |0,_=>by simp[words]
 |n+1,h=>by
  rw[List.range_succ,List.map_append]
  have e:words (((List.range n).map fun i=>num b (4*i) 4)++ [num b (4*n) 4])=words ((List.range n).map fun i=>num b (4*i) 4)++toBE 4 (num b (4*n) 4):=by
   simp[words]
  simp only[List.map_cons,List.map_nil]
  rw[e,words_take b n (by omega),num_at (by omega),Nat.mul_succ,List.take_add]
/-- What is read has just the bytes that it was read from. -/
theorem Hd.same (b:List UInt8) (h:hdE b=0):(Hd.of b).right∧(Hd.of b).ok∧(Hd.of b).csrc.length=at_ b 0%16∧(Hd.of b).bytes=b.take (12+4*(at_ b 0%16)):=by
 have hz:=hdE_zero.1 h
 have h0:=at_lt b 0
 have h1:=at_lt b 1
 have hl:(Hd.of b).csrc.length=at_ b 0%16:=by simp[Hd.of]
 refine ⟨?_,?_,hl,?_⟩
 ·have e:(Hd.of b).typ=((at_ b 1%128:Nat):Int):=rfl
  refine ⟨by omega,by omega,by rw[hl];omega⟩
 ·refine ⟨num_lt _ _ 2,num_lt _ _ 4,num_lt _ _ 4,?_⟩
  intro c hc
  simp only[Hd.of,List.mem_map] at hc
  obtain ⟨i,_,rfl⟩:=hc
  exact num_lt _ _ 4
 ·have f1:(Hd.of b).first=at_ b 0:=by
   simp only[Hd.first,hl]
   have e1:(Hd.of b).pad=decide (at_ b 0/32%2=1):=rfl
   have e2:(Hd.of b).ext=decide (at_ b 0/16%2=1):=rfl
   rw[e1,e2]
   by_cases q1:at_ b 0/32%2=1<;>by_cases q2:at_ b 0/16%2=1<;>simp[q1,q2]<;>omega
  have f2:(Hd.of b).second=at_ b 1:=by
   simp only[Hd.second]
   have e1:(Hd.of b).mark=decide (128≤at_ b 1):=rfl
   have e2:(Hd.of b).typ=((at_ b 1%128:Nat):Int):=rfl
   rw[e1,e2]
   by_cases q1:128≤at_ b 1<;>simp[q1]<;>omega
  have g1:toBE 2 (Hd.of b).seq=(b.drop 2).take 2:=num_at (by omega)
  have g2:toBE 4 (Hd.of b).time=(b.drop 4).take 4:=num_at (by omega)
  have g3:toBE 4 (Hd.of b).ssrc=(b.drop 8).take 4:=num_at (by omega)
  have g4:words (Hd.of b).csrc=(b.drop 12).take (4*(at_ b 0%16)):=by
   rw[←words_take (b.drop 12) (at_ b 0%16) (by simp;omega)]
   congr 1
   simp only[Hd.of]
   apply List.map_congr_left
   intro i _
   simp[num,List.drop_drop]
  rw[Hd.bytes,f1,f2,g1,g2,g3,g4]
  have cut4:∀(n m:Nat) (l:List UInt8),(l.drop n).take m++(l.drop (n+m))=l.drop n:=by
   intro n m l
   rw[←List.drop_drop,List.take_append_drop]
  have e5:(12+4*(at_ b 0%16))=2+(2+(4+(4+4*(at_ b 0%16)))):=by omega
  generalize hm:4*(at_ b 0%16)=m at*
  have hb:=take_cons2 b hz.1
  have e6:b.take (2+(2+(4+(4+m))))=UInt8.ofNat (at_ b 0)::UInt8.ofNat (at_ b 1)::(b.drop 2).take (2+(4+(4+m))):=by
   conv=>lhs;rw[hb]
   rw[show 2+(2+(4+(4+m)))=(2+(4+(4+m)))+1+1 by omega,List.take_succ_cons,List.take_succ_cons]
  rw[e5,e6]
  have tk:∀(n m k:Nat),((b.drop k).take (n+m))=(b.drop k).take n++(b.drop (k+n)).take m:=by
   intro n m k
   rw[List.take_add,List.drop_drop]
  rw[tk 2 _ 2,tk 4 _ 4,tk 4 _ 8]
/-- Cut anywhere, it is too short. -/
theorem Hd.cut (h:Hd) (hr:h.right) (ho:h.ok) (k:Nat) (hk:k<h.bytes.length):hdE (h.bytes.take k)=2:=by
 have hb:=Hd.back h hr ho []
 rw[List.append_nil] at hb
 have hz:=hdE_zero.1 hb.1
 have hl:=h.bytes_length
 unfold hdE
 rw[List.length_take,Nat.min_eq_left (Nat.le_of_lt hk)]
 split
 ·rfl
 ·rename_i h12
  have a0:at_ (h.bytes.take k) 0=at_ h.bytes 0:=by
   simp only[at_,List.getD_eq_getElem?_getD]
   rw[List.getElem?_take,if_pos (by omega)]
  rw[a0,if_neg (by omega),if_pos (by omega)]
theorem Hd.inj {h k:Hd} (hr:h.right) (ho:h.ok) (kr:k.right) (ko:k.ok) (e:h.bytes=k.bytes):h=k:=by
 have h1:=(Hd.back h hr ho []).2.1
 have h2:=(Hd.back k kr ko []).2.1
 rw[←h1,←h2,e]
end Go.Plain

namespace Go.Plain
structure El where
 id:Int
 data:List UInt8
deriving DecidableEq
def El.zero:El:=⟨0,[]⟩
def elIds (l:List El):List Int:=l.map (·.id)
/-- The j-th one is right, and unlike those ahead. -/
def elAt (l:List El) (j:Nat):Prop:=1≤(l.getD j El.zero).id∧(l.getD j El.zero).id≤255∧(l.getD j El.zero).data.length≤255∧(l.getD j El.zero).id∉elIds (l.take j)
instance (l:List El) (j:Nat):Decidable (elAt l j):=by unfold elAt;exact inferInstance
def elRight (l:List El):Prop:=∀j,j<l.length→elAt l j
instance (l:List El):Decidable (elRight l):=by unfold elRight;exact inferInstance
/-- Where an element stands. -/
structure Sp where
 id:Nat
 pos:Nat
 size:Nat
deriving DecidableEq
def Sp.zero:Sp:=⟨0,0,0⟩
/-- The element that begins at a place, in the narrower form or the wider one. -/
def spAt (nar:Bool) (b:List UInt8) (p:Nat):Sp:=if nar then ⟨at_ b p/16,p+1,at_ b p%16+1⟩ else ⟨at_ b p,p+2,at_ b (p+1)⟩
def spIds (l:List Sp):List Nat:=l.map (·.id)
theorem spAt_far (nar:Bool) (b:List UInt8) (p:Nat):p<(spAt nar b p).pos+(spAt nar b p).size:=by
 unfold spAt
 split<;>simp only<;>omega
/-- Through the data, from a place on, some having come. -/
def wk (nar:Bool) (b:List UInt8) (p:Nat) (out:List Sp):List Sp×Int:=
 if h:p<b.length then
  if at_ b p=0 then wk nar b (p+1) out
  else if nar=true∧(at_ b p/16=15∨at_ b p/16=0) then (out,0)
  else if nar=false∧b.length≤p+1 then ([],4)
  else if b.length<(spAt nar b p).pos+(spAt nar b p).size then ([],4)
  else if (spAt nar b p).id∈spIds out then ([],6)
  else wk nar b ((spAt nar b p).pos+(spAt nar b p).size) (out++ [spAt nar b p])
 else (out,0)
termination_by b.length-p
decreasing_by
 ·omega
 ·have:=spAt_far nar b p
  omega
theorem wk_end {nar:Bool} {b:List UInt8} {p:Nat} {out:List Sp} (h:¬p<b.length):wk nar b p out=(out,0):=by rw[wk,dif_neg h]
theorem wk_zero {nar:Bool} {b:List UInt8} {p:Nat} {out:List Sp} (h:p<b.length) (h0:at_ b p=0):wk nar b p out=wk nar b (p+1) out:=by rw[wk,dif_pos h,if_pos h0]
theorem wk_stop {nar:Bool} {b:List UInt8} {p:Nat} {out:List Sp} (h:p<b.length) (h0:¬at_ b p=0) (h1:nar=true∧(at_ b p/16=15∨at_ b p/16=0)):wk nar b p out=(out,0):=by rw[wk,dif_pos h,if_neg h0,if_pos h1]
theorem wk_short {nar:Bool} {b:List UInt8} {p:Nat} {out:List Sp} (h:p<b.length) (h0:¬at_ b p=0) (h1:¬(nar=true∧(at_ b p/16=15∨at_ b p/16=0))) (h2:nar=false∧b.length≤p+1):wk nar b p out=([],4):=by
 rw[wk,dif_pos h,if_neg h0,if_neg h1,if_pos h2]
theorem wk_long {nar:Bool} {b:List UInt8} {p:Nat} {out:List Sp} (h:p<b.length) (h0:¬at_ b p=0) (h1:¬(nar=true∧(at_ b p/16=15∨at_ b p/16=0))) (h2:¬(nar=false∧b.length≤p+1))
  (h3:b.length<(spAt nar b p).pos+(spAt nar b p).size):wk nar b p out=([],4):=by
 rw[wk,dif_pos h,if_neg h0,if_neg h1,if_neg h2,if_pos h3]
theorem wk_twice {nar:Bool} {b:List UInt8} {p:Nat} {out:List Sp} (h:p<b.length) (h0:¬at_ b p=0) (h1:¬(nar=true∧(at_ b p/16=15∨at_ b p/16=0))) (h2:¬(nar=false∧b.length≤p+1))
  (h3:¬b.length<(spAt nar b p).pos+(spAt nar b p).size) (h4:(spAt nar b p).id∈spIds out):wk nar b p out=([],6):=by
 rw[wk,dif_pos h,if_neg h0,if_neg h1,if_neg h2,if_neg h3,if_pos h4]
theorem wk_step {nar:Bool} {b:List UInt8} {p:Nat} {out:List Sp} (h:p<b.length) (h0:¬at_ b p=0) (h1:¬(nar=true∧(at_ b p/16=15∨at_ b p/16=0))) (h2:¬(nar=false∧b.length≤p+1))
  (h3:¬b.length<(spAt nar b p).pos+(spAt nar b p).size) (h4:¬(spAt nar b p).id∈spIds out):wk nar b p out=wk nar b ((spAt nar b p).pos+(spAt nar b p).size) (out++ [spAt nar b p]):=by
 rw[wk,dif_pos h,if_neg h0,if_neg h1,if_neg h2,if_neg h3,if_neg h4]
end Go.Plain

namespace Go.Plain
def spots (prof:Nat) (b:List UInt8):List Sp×Int:=
 if prof=48862 then wk true b 0 [] else if prof/16=256 then wk false b 0 [] else ([],6)
def elOf (b:List UInt8) (s:Sp):El:=⟨(s.id:Int),(b.drop s.pos).take s.size⟩
def elRead (prof:Nat) (b:List UInt8):List El:=(spots prof b).1.map (elOf b)
/-- An element of the narrower form (or, else, of the wider one). -/
def elFits (nar:Bool) (e:El):Prop:=if nar then 1≤e.id∧e.id≤14∧1≤e.data.length∧e.data.length≤16 else 1≤e.id∧e.id≤255∧e.data.length≤255
instance (nar:Bool) (e:El):Decidable (elFits nar e):=by unfold elFits;exact inferInstance
def elNarrow (l:List El):Bool:=decide (∀e∈l,elFits true e)
def elProfile (l:List El):Nat:=if elRight l then (if elNarrow l then 48862 else 4096) else 0
def enc (nar:Bool) (e:El):List UInt8:=if nar then UInt8.ofNat (16*e.id.toNat+e.data.length-1)::e.data else UInt8.ofNat e.id.toNat::UInt8.ofNat e.data.length::e.data
def elRaw (nar:Bool) (l:List El):List UInt8:=l.flatMap (enc nar)
def fill4 (b:List UInt8):List UInt8:=b++List.replicate ((4-b.length%4)%4) 0
def elBytes (l:List El):List UInt8:=fill4 (elRaw (elNarrow l) l)
def ahead (nar:Bool):Nat:=if nar then 1 else 2
theorem enc_length (nar:Bool) (e:El):(enc nar e).length=ahead nar+e.data.length:=by
 unfold enc ahead;cases nar<;>simp<;>omega
theorem at_app_right {a b:List UInt8} (i:Nat):at_ (a++b) (a.length+i)=at_ b i:=by
 unfold at_;rw[List.getD_eq_getElem?_getD,List.getD_eq_getElem?_getD,List.getElem?_append_right (by omega)];congr 3;omega
theorem at_app_zero {a b:List UInt8}:at_ (a++b) a.length=at_ b 0:=at_app_right 0
theorem elFits_nar {e:El} (h:elFits true e):1≤e.id∧e.id≤14∧1≤e.data.length∧e.data.length≤16:=by simpa [elFits] using h
theorem elFits_wide {e:El} (h:elFits false e):1≤e.id∧e.id≤255∧e.data.length≤255:=by simpa [elFits] using h
/-- Bytes 0 are gone over. -/
theorem wk_zeros (nar:Bool) (r:List UInt8) (out:List Sp):∀(n:Nat) (p:List UInt8),wk nar (p++(List.replicate n 0++r)) p.length out=wk nar (p++(List.replicate n 0++r)) (p.length+n) out
 |0,_=>rfl
 |n+1,p=>by
  have h0:at_ (p++(List.replicate (n+1) 0++r)) p.length=0:=by
   rw[at_app_zero,List.replicate_succ];rfl
  rw[wk_zero (by simp;omega) h0]
  have e:p++(List.replicate (n+1) 0++r)=(p++ [0])++(List.replicate n 0++r):=by simp[List.replicate_succ]
  have ih:=wk_zeros nar r out n (p++ [0])
  rw[e]
  rw[show p.length+1=(p++ [0]).length by simp]
  rw[ih]
  congr 1
  simp;omega
/-- Elements, each with so many bytes 0 ahead. -/
def lay (nar:Bool) (l:List (Nat×El)):List UInt8:=l.flatMap fun x=>List.replicate x.1 0++enc nar x.2
def layAt (nar:Bool):Nat→List (Nat×El)→List Sp
 |_,[]=> []
 |p,(n,e)::l=>⟨e.id.toNat,p+n+ahead nar,e.data.length⟩::layAt nar (p+n+(enc nar e).length) l
theorem layAt_length (nar:Bool):∀(l:List (Nat×El)) (p:Nat),(layAt nar p l).length=l.length
 | [],_=>rfl
 |(_,_)::l,_=>by simp[layAt,layAt_length nar l]
theorem lay_els (nar:Bool):∀(l:List (Nat×El)) (p r:List UInt8),(∀x∈l,elFits nar x.2)→(layAt nar p.length l).map (elOf (p++(lay nar l++r)))=l.map (·.2)
 | [],_,_,_=>rfl
 |(n,e)::l,p,r,hf=>by
  have e1:p++(lay nar ((n,e)::l)++r)=(p++List.replicate n 0++enc nar e)++(lay nar l++r):=by simp[lay]
  have ih:=lay_els nar l (p++List.replicate n 0++enc nar e) r (fun x hx=>hf x (by simp[hx]))
  have hid:1≤e.id:=by
   have:=hf (n,e) (by simp)
   revert this;cases nar<;>simp[elFits]<;>omega
  rw[layAt,List.map_cons,List.map_cons,e1]
  have hlen:p.length+n+(enc nar e).length=(p++List.replicate n (0:UInt8)++enc nar e).length:=by simp;omega
  rw[hlen,ih]
  congr 1
  unfold elOf
  have e2:(p++List.replicate n 0++enc nar e)++(lay nar l++r)=(p++List.replicate n 0++(enc nar e).take (ahead nar))++(e.data++(lay nar l++r)):=by
   have:enc nar e=(enc nar e).take (ahead nar)++e.data:=by unfold enc ahead;cases nar<;>simp
   conv=>lhs;rw[this]
   simp
  have hl:(p++List.replicate n 0++(enc nar e).take (ahead nar)).length=p.length+n+ahead nar:=by
   simp[enc_length];omega
  rw[e2,←hl,List.drop_left,List.take_left]
  cases e
  simp only[El.mk.injEq,and_true]
  simp only at hid
  omega
theorem elRight_fits {l:List El} (h:elRight l):(∀e∈l,elFits (elNarrow l) e)∧(l.map fun e=>e.id.toNat).Nodup:=by
 have hin:∀e∈l,1≤e.id∧e.id≤255∧e.data.length≤255:=by
  intro e he
  obtain ⟨j,hj,rfl⟩:=List.getElem_of_mem he
  have:=h j hj
  unfold elAt at this
  rw[List.getD_eq_getElem?_getD,List.getElem?_eq_getElem hj] at this
  exact ⟨this.1,this.2.1,this.2.2.1⟩
 refine ⟨fun e he=>?_,?_⟩
 ·by_cases hn:elNarrow l=true
  ·rw[hn];exact (of_decide_eq_true hn) e he
  ·rw[Bool.not_eq_true] at hn;rw[hn]
   simpa [elFits] using hin e he
 ·rw[List.nodup_iff_pairwise_ne,List.pairwise_iff_getElem]
  intro i j hi hj hij he
  simp only[List.getElem_map,List.length_map] at he hi hj
  have:=(h j hj).2.2.2
  apply this
  rw[List.getD_eq_getElem?_getD,List.getElem?_eq_getElem hj]
  simp only[Option.getD_some,elIds,List.mem_map]
  refine ⟨l[i],?_,?_⟩
  ·rw[List.mem_take_iff_getElem]
   exact ⟨i,by omega,rfl⟩
  ·have h1:=hin l[i] (List.getElem_mem hi)
   have h2:=hin l[j] (List.getElem_mem hj)
   omega
theorem right_of_fits {l:List El} (nar:Bool) (h1:∀e∈l,elFits nar e) (h2:(l.map fun e=>e.id.toNat).Nodup):elRight l:=by
 intro j hj
 have hin:∀e∈l,1≤e.id∧e.id≤255∧e.data.length≤255:=by
  intro e he
  have:=h1 e he
  revert this;cases nar<;>simp[elFits]<;>omega
 have h3:=hin l[j] (List.getElem_mem hj)
 unfold elAt
 rw[List.getD_eq_getElem?_getD,List.getElem?_eq_getElem hj]
 refine ⟨h3.1,h3.2.1,h3.2.2,?_⟩
 intro hm
 simp only[Option.getD_some,elIds,List.mem_map] at hm
 obtain ⟨e,he,heq⟩:=hm
 rw[List.mem_take_iff_getElem] at he
 obtain ⟨i,hi,rfl⟩:=he
 rw[List.nodup_iff_pairwise_ne,List.pairwise_iff_getElem] at h2
 refine h2 i j (by simp;omega) (by simpa using hj) (by omega) ?_
 simp[heq]
def profOf (nar:Bool):Nat:=if nar then 48862 else 4096
theorem elProfile_eq {l:List El} (h:elRight l):elProfile l=profOf (elNarrow l):=by unfold elProfile profOf;rw[if_pos h]
/-- Any number of the wider form goes as 4096 does. -/
def isProf (nar:Bool) (q:Nat):Prop:=if nar then q=48862 else q/16=256
/-- WHAT IS READ IS RIGHT. -/
def spGood (nar:Bool) (b:List UInt8) (s:Sp):Prop:=elFits nar (elOf b s)
theorem wk_good (nar:Bool) (b:List UInt8):∀(n p:Nat) (out:List Sp),b.length-p≤n→(∀s∈out,spGood nar b s∧s.pos+s.size≤b.length)→(spIds out).Nodup→
  (∀s∈(wk nar b p out).1,spGood nar b s∧s.pos+s.size≤b.length)∧(spIds (wk nar b p out).1).Nodup∧((wk nar b p out).2=0∨(wk nar b p out).1=[]∧((wk nar b p out).2=4∨(wk nar b p out).2=6)):=by
 intro n
 induction n with
 |zero=>
  intro p out hn h1 h2
  rw[wk_end (by omega)]
  exact ⟨h1,h2,.inl rfl⟩
 |succ n ih=>
  intro p out hn h1 h2
  by_cases hp:p<b.length
  ·by_cases h0:at_ b p=0
   ·rw[wk_zero hp h0];exact ih _ _ (by omega) h1 h2
   ·by_cases hs:nar=true∧(at_ b p/16=15∨at_ b p/16=0)
    ·rw[wk_stop hp h0 hs];exact ⟨h1,h2,.inl rfl⟩
    ·by_cases hw:nar=false∧b.length≤p+1
     ·rw[wk_short hp h0 hs hw];exact ⟨by simp,by simp[spIds],.inr ⟨rfl,.inl rfl⟩⟩
     ·by_cases hl:b.length<(spAt nar b p).pos+(spAt nar b p).size
      ·rw[wk_long hp h0 hs hw hl];exact ⟨by simp,by simp[spIds],.inr ⟨rfl,.inl rfl⟩⟩
      ·by_cases ht:(spAt nar b p).id∈spIds out
       ·rw[wk_twice hp h0 hs hw hl ht];exact ⟨by simp,by simp[spIds],.inr ⟨rfl,.inr rfl⟩⟩
       ·rw[wk_step hp h0 hs hw hl ht]
        have hfar:=spAt_far nar b p
        refine ih _ _ (by omega) ?_ ?_
        ·intro s hs2
         rcases List.mem_append.1 hs2 with hs2|hs2
         ·exact h1 s hs2
         ·obtain rfl:s=spAt nar b p:=by simpa using hs2
          refine ⟨?_,by omega⟩
          have hx:=at_lt b p
          have hy:=at_lt b (p+1)
          unfold spGood elFits elOf
          cases nar with
          |true=>
           simp only[spAt,if_true,List.length_take,List.length_drop] at hl ⊢
           simp only[true_and,not_or] at hs
           omega
          |false=>
           simp only[spAt,Bool.false_eq_true,if_false,List.length_take,List.length_drop] at hl ⊢
           omega
        ·simp only[spIds,List.map_append,List.map_cons,List.map_nil]
         rw[List.nodup_append]
         refine ⟨h2,by simp,?_⟩
         intro a ha c hc
         simp only[List.mem_singleton] at hc
         subst hc
         intro e
         subst e
         exact ht ha
  ·rw[wk_end hp];exact ⟨h1,h2,.inl rfl⟩
theorem spots_cases (q:Nat) (b:List UInt8):(∃nar,isProf nar q∧spots q b=wk nar b 0 [])∨spots q b=([],6):=by
 unfold spots
 split
 ·rename_i h;exact .inl ⟨true,by simp[isProf,h],rfl⟩
 ·split
  ·rename_i h;exact .inl ⟨false,by simp[isProf,h],rfl⟩
  ·exact .inr rfl
theorem spots_good (q:Nat) (b:List UInt8):(∀s∈(spots q b).1,s.pos+s.size≤b.length)∧((spots q b).2=0∨(spots q b).1=[]∧((spots q b).2=4∨(spots q b).2=6))∧elRight (elRead q b):=by
 rcases spots_cases q b with ⟨nar,_,h⟩|h
 ·have:=wk_good nar b b.length 0 [] (by omega) (by simp) (by simp[spIds])
  unfold elRead
  rw[h]
  refine ⟨fun s hs=>(this.1 s hs).2,this.2.2,?_⟩
  refine right_of_fits nar ?_ ?_
  ·intro e he
   obtain ⟨s,hs,rfl⟩:=List.mem_map.1 he
   exact (this.1 s hs).1
  ·have h2:=this.2.1
   have e:(List.map (fun e=>e.id.toNat) (List.map (elOf b) (wk nar b 0 []).1))=spIds (wk nar b 0 []).1:=by
    simp only[List.map_map,spIds]
    apply List.map_congr_left
    intro s _
    simp[elOf]
   rw[e]
   exact h2
 ·unfold elRead
  rw[h]
  exact ⟨by simp,.inr ⟨rfl,.inr rfl⟩,by intro j hj;simp at hj⟩
end Go.Plain

namespace Go.Plain
/-- Behind the elements nothing more is read. -/
def stopOk (nar:Bool) (r:List UInt8):Prop:=∀(q:List UInt8) (out:List Sp),wk nar (q++r) q.length out=(out,0)
theorem stop_nil (nar:Bool):stopOk nar []:=fun q out=>wk_end (by simp)
theorem stop_zero {nar:Bool} {r:List UInt8} (h:stopOk nar r):stopOk nar (0::r):=fun q out=>by
 have:=wk_zeros nar r out 1 q
 simp only[List.replicate_one,List.singleton_append] at this
 rw[this]
 have h2:=h (q++ [0]) out
 simpa using h2
theorem stop_end {x:UInt8} (r:List UInt8) (h0:x.toNat≠0) (h:x.toNat/16=15∨x.toNat/16=0):stopOk true (x::r):=fun q out=>by
 have a0:at_ (q++x::r) q.length=x.toNat:=by rw[at_app_zero];rfl
 exact wk_stop (by simp) (by rw[a0];exact h0) ⟨rfl,by rw[a0];exact h⟩
theorem at_drop (b:List UInt8) (p i:Nat):at_ (b.drop p) i=at_ b (p+i):=by
 simp only[at_,List.getD_eq_getElem?_getD,List.getElem?_drop]
theorem drop_at_cons {b:List UInt8} {p:Nat} (h:p<b.length):b.drop p=UInt8.ofNat (at_ b p)::b.drop (p+1):=by
 rw[List.drop_eq_getElem_cons h]
 simp[at_,List.getD,h]
theorem enc_here {nar:Bool} {b:List UInt8} {p:Nat} (h:p<b.length) (h0:¬at_ b p=0) (h1:¬(nar=true∧(at_ b p/16=15∨at_ b p/16=0))) (h2:¬(nar=false∧b.length≤p+1))
  (h3:¬b.length<(spAt nar b p).pos+(spAt nar b p).size):
  elFits nar (elOf b (spAt nar b p))∧b.drop p=enc nar (elOf b (spAt nar b p))++b.drop ((spAt nar b p).pos+(spAt nar b p).size)∧spAt nar b p=⟨(elOf b (spAt nar b p)).id.toNat,p+ahead nar,(elOf b (spAt nar b p)).data.length⟩:=by
 have hx:=at_lt b p
 have hy:=at_lt b (p+1)
 have hd:(b.drop (spAt nar b p).pos).take (spAt nar b p).size++b.drop ((spAt nar b p).pos+(spAt nar b p).size)=b.drop (spAt nar b p).pos:=by rw[←List.drop_drop,List.take_append_drop]
 have hl:((b.drop (spAt nar b p).pos).take (spAt nar b p).size).length=(spAt nar b p).size:=by simp;omega
 cases nar with
 |true=>
  simp only[true_and,not_or] at h1
  have e1:(spAt true b p).id=at_ b p/16:=rfl
  have e2:(spAt true b p).pos=p+1:=rfl
  have e3:(spAt true b p).size=at_ b p%16+1:=rfl
  refine ⟨?_,?_,?_⟩
  ·unfold elFits elOf
   simp only[if_true,hl]
   omega
  ·unfold enc elOf
   simp only[if_true,hl]
   rw[List.cons_append,hd,e2,drop_at_cons h]
   congr 2
   rw[e1,e3]
   omega
  ·unfold elOf
   simp only[hl,Int.toNat_natCast]
   rfl
 |false=>
  have h2:p+1<b.length:=by simpa using h2
  have e1:(spAt false b p).id=at_ b p:=rfl
  have e2:(spAt false b p).pos=p+2:=rfl
  have e3:(spAt false b p).size=at_ b (p+1):=rfl
  refine ⟨?_,?_,?_⟩
  ·unfold elFits elOf
   simp only[Bool.false_eq_true,if_false,hl]
   omega
  ·unfold enc elOf
   simp only[Bool.false_eq_true,if_false,hl]
   rw[List.cons_append,List.cons_append,hd,e2,drop_at_cons h,drop_at_cons h2]
   congr 2
  ·unfold elOf
   simp only[hl,Int.toNat_natCast]
   rfl
/-- The decomposition. -/
theorem wk_decomp (nar:Bool) (b:List UInt8):∀(n p:Nat) (out S:List Sp),b.length-p≤n→p≤b.length→wk nar b p out=(S,0)→
  ∃l r,b.drop p=lay nar l++r∧S=out++layAt nar p l∧(∀x∈l,elFits nar x.2)∧stopOk nar r:=by
 intro n
 induction n with
 |zero=>
  intro p out S hn hp h
  rw[wk_end (by omega)] at h
  cases h
  refine ⟨[],[],?_,by simp[layAt],by simp,stop_nil nar⟩
  rw[List.drop_of_length_le (by omega)]
  rfl
 |succ n ih=>
  intro p out S hn hp h
  by_cases hlt:p<b.length
  ·by_cases h0:at_ b p=0
   ·rw[wk_zero hlt h0] at h
    obtain ⟨l,r,e1,e2,e3,e4⟩:=ih (p+1) out S (by omega) (by omega) h
    have hd:=drop_at_cons hlt
    rw[h0,e1] at hd
    cases l with
    |nil=>exact ⟨[],0::r,by simpa [lay] using hd,by simpa [layAt] using e2,by simp,stop_zero e4⟩
    |cons x l=>
     obtain ⟨m,e⟩:=x
     refine ⟨(m+1,e)::l,r,?_,?_,?_,e4⟩
     ·rw[hd]
      simp[lay,List.replicate_succ]
     ·rw[e2]
      simp only[layAt]
      rw[show p+1+m=p+(m+1) by omega]
     ·intro x hx
      rcases List.mem_cons.1 hx with rfl|hx
      ·exact e3 (m,e) (by simp)
      ·exact e3 x (by simp[hx])
   ·by_cases hs:nar=true∧(at_ b p/16=15∨at_ b p/16=0)
    ·rw[wk_stop hlt h0 hs] at h
     cases h
     obtain ⟨rfl,hs⟩:=hs
     refine ⟨[],b.drop p,by simp[lay],by simp[layAt],by simp,?_⟩
     rw[drop_at_cons hlt]
     have hx:=at_lt b p
     have e:(UInt8.ofNat (at_ b p)).toNat=at_ b p:=by simp;omega
     exact stop_end _ (by rw[e];exact h0) (by rw[e];exact hs)
    ·by_cases hw:nar=false∧b.length≤p+1
     ·rw[wk_short hlt h0 hs hw] at h;cases h
     ·by_cases hl:b.length<(spAt nar b p).pos+(spAt nar b p).size
      ·rw[wk_long hlt h0 hs hw hl] at h;cases h
      ·by_cases ht:(spAt nar b p).id∈spIds out
       ·rw[wk_twice hlt h0 hs hw hl ht] at h;cases h
       ·rw[wk_step hlt h0 hs hw hl ht] at h
        have hfar:=spAt_far nar b p
        obtain ⟨l,r,e1,e2,e3,e4⟩:=ih _ _ S (by omega) (by omega) h
        obtain ⟨g1,g2,g3⟩:=enc_here hlt h0 hs hw hl
        rw[e1] at g2
        generalize hsp:spAt nar b p=sp at*
        have hpos:sp.pos+sp.size=p+0+(enc nar (elOf b sp)).length:=by
         rw[enc_length]
         have:=congrArg Sp.pos g3
         have:=congrArg Sp.size g3
         simp only at*
         omega
        refine ⟨(0,elOf b sp)::l,r,?_,?_,?_,e4⟩
        ·rw[g2]
         simp[lay]
        ·rw[e2,hpos]
         simp only[layAt,Nat.add_zero,List.append_assoc,List.singleton_append]
         congr 2
        ·intro x hx
         rcases List.mem_cons.1 hx with rfl|hx
         ·exact g1
         ·exact e3 x hx
  ·have:p=b.length:=by omega
   rw[wk_end hlt] at h
   cases h
   refine ⟨[],[],?_,by simp[layAt],by simp,stop_nil nar⟩
   rw[List.drop_of_length_le (by omega)]
   rfl
theorem spots_decomp {q:Nat} {b:List UInt8} (h:(spots q b).2=0):∃nar l r,isProf nar q∧b=lay nar l++r∧(spots q b).1=layAt nar 0 l∧(∀x∈l,elFits nar x.2)∧stopOk nar r:=by
 rcases spots_cases q b with ⟨nar,hq,hs⟩|hs
 ·have hw:wk nar b 0 []=((wk nar b 0 []).1,0):=by rw[←hs];rw[←h]
  obtain ⟨l,r,e1,e2,e3,e4⟩:=wk_decomp nar b b.length 0 [] _ (by omega) (by omega) hw
  exact ⟨nar,l,r,hq,by simpa using e1,by rw[hs];simpa using e2,e3,e4⟩
 ·rw[hs] at h;cases h
/-- The elements read of laid ones are these, and no two have one id. -/
theorem decomp_els {q:Nat} {b:List UInt8} {nar:Bool} {l:List (Nat×El)} {r:List UInt8} (hb:b=lay nar l++r) (hs:(spots q b).1=layAt nar 0 l) (hf:∀x∈l,elFits nar x.2):
  elRead q b=l.map (·.2)∧(l.map (fun x=>x.2.id.toNat)).Nodup:=by
 have h1:elRead q b=l.map (·.2):=by
  unfold elRead
  rw[hs,hb]
  simpa using lay_els nar l [] r hf
 refine ⟨h1,?_⟩
 have h2:=(spots_good q b).2.2
 rw[h1] at h2
 have h3:=(elRight_fits h2).2
 rw[List.map_map] at h3
 exact h3
end Go.Plain

namespace Go.Plain
/-! Lists of ids. -/
def idAt (l:List Int) (j:Nat):Prop:=1≤l.getD j 0∧l.getD j 0≤255∧l.getD j 0∉l.take j
instance (l:List Int) (j:Nat):Decidable (idAt l j):=by unfold idAt;infer_instance
def idsRight (l:List Int):Prop:=∀j,j<l.length→idAt l j
instance (l:List Int):Decidable (idsRight l):=by unfold idsRight;infer_instance
structure Mp where
 fr:Int
 to:Int
 deriving DecidableEq
def Mp.zero:Mp:=⟨0,0⟩
/-! Plans. -/
structure Pl where
 sm:Bool
 m:Bool
 st:Bool
 ty:Int
 sq:Bool
 seq:Int
 stm:Bool
 time:Int
 ss:Bool
 ssrc:Int
 maps:List Mp
 over:List El
 drops:List Int
 adds:List El
 np:Bool
 deriving DecidableEq
def Pl.zero:Pl:=⟨false,false,false,0,false,0,false,0,false,0,[],[],[],[],false⟩
def flagsOk (p:Pl):Prop:=(p.sm=true∨p.m=false)∧(p.st=true∨p.ty=0)∧(p.sq=true∨p.seq=0)∧(p.stm=true∨p.time=0)∧(p.ss=true∨p.ssrc=0)∧0≤p.ty∧p.ty≤127
instance (p:Pl):Decidable (flagsOk p):=by unfold flagsOk;infer_instance
def plRight (p:Pl):Prop:=flagsOk p∧idsRight (p.maps.map (·.fr))∧idsRight (p.maps.map (·.to))∧idsRight p.drops∧elRight p.over∧elRight p.adds∧(∀d∈p.drops,d∉p.maps.map (·.fr))∧∀d∈p.drops,d∉elIds p.over
instance (p:Pl):Decidable (plRight p):=by unfold plRight;infer_instance
def plFew (p:Pl):Prop:=p.maps.length≤1000000∧p.over.length≤1000000∧p.drops.length≤1000000∧p.adds.length≤1000000
def plNum (p:Pl):Prop:=0≤p.seq∧p.seq<65536∧0≤p.time∧p.time<4294967296∧0≤p.ssrc∧p.ssrc<4294967296
instance (p:Pl):Decidable (plNum p):=by unfold plNum;infer_instance
theorem ids_lt {l:List Int} (h:idsRight l):∀x∈l,1≤x∧x≤255:=by
 intro x hx
 obtain ⟨j,hj,rfl⟩:=List.getElem_of_mem hx
 have:=h j hj
 unfold idAt at this
 simp[List.getD,hj] at this
 omega
theorem idsRight_iff (l:List Int):idsRight l↔(∀x∈l,1≤x∧x≤255)∧l.Nodup:=by
 constructor
 ·intro h
  refine ⟨ids_lt h,?_⟩
  rw[List.Nodup,List.pairwise_iff_getElem]
  intro i j hi hj hij he
  have:=(h j hj).2.2
  apply this
  rw[List.mem_take_iff_getElem]
  refine ⟨i,by omega,?_⟩
  simp[List.getD,hj,he]
 ·rintro ⟨h1,h2⟩ j hj
  have hm:l.getD j 0∈l:=by simp[List.getD,hj]
  refine ⟨(h1 _ hm).1,(h1 _ hm).2,fun h3=>?_⟩
  rw[List.mem_take_iff_getElem] at h3
  obtain ⟨i,hi,he⟩:=h3
  rw[List.Nodup,List.pairwise_iff_getElem] at h2
  have hi2:i<l.length:=by omega
  apply h2 i j hi2 hj (by omega)
  rw[he]
  simp[List.getD,hj]
theorem elRight_ids {l:List El} (h:elRight l):idsRight (elIds l):=by
 intro j hj
 have hj2:j<l.length:=by simpa [elIds] using hj
 obtain ⟨h1,h2,h3,h4⟩:=h j hj2
 have e:(elIds l).getD j 0=(l.getD j El.zero).id:=by simp[elIds,List.getD,hj2]
 have t:(elIds l).take j=elIds (l.take j):=by simp[elIds]
 unfold idAt
 rw[e,t]
 exact ⟨h1,h2,h4⟩
/-! The elements behind a plan. -/
def newId (p:Pl) (x:Int):Int:=match p.maps.find? (·.fr==x) with|some m=>m.to|none=>x
def newData (p:Pl) (x:Int) (d:List UInt8):List UInt8:=match p.over.find? (·.id==x) with|some e=>e.data|none=>d
def newEl (p:Pl) (e:El):El:=⟨newId p e.id,newData p e.id e.data⟩
def plOuts (p:Pl) (l:List El):List El:=(l.filter fun e=>decide (e.id∉p.drops)).map (newEl p)++p.adds
def plNeed (p:Pl) (l:List El):Prop:=(∀x∈p.maps.map (·.fr),x∈elIds l)∧(∀x∈elIds p.over,x∈elIds l)∧∀x∈p.drops,x∈elIds l
instance (p:Pl) (l:List El):Decidable (plNeed p l):=by unfold plNeed;infer_instance
def plLens (p:Pl) (l:List El):Prop:=∀e∈l,e.id∉p.drops→(newData p e.id e.data).length=e.data.length
instance (p:Pl) (l:List El):Decidable (plLens p l):=by unfold plLens;infer_instance
/-- The plan fits these elements. -/
def plMeets (p:Pl) (l:List El):Prop:=plNeed p l∧plLens p l∧idsRight (elIds (plOuts p l))
instance (p:Pl) (l:List El):Decidable (plMeets p l):=by unfold plMeets;infer_instance
/-- How often the plan finds what it speaks of. -/
def cntE (p:Pl) (e:El):Nat:=if e.id∈p.drops then 1 else (if e.id∈elIds p.over then 1 else 0)+(if e.id∈p.maps.map (·.fr) then 1 else 0)
def cnt (p:Pl) (l:List El):Nat:=(l.map (cntE p)).sum
theorem countP_in {A D:List Int} (hA:A.Nodup) (hD:D.Nodup):A.countP (fun x=>decide (x∈D))=(D.filter fun x=>decide (x∈A)).length:=by
 rw[List.countP_eq_length_filter]
 apply List.Perm.length_eq
 rw[List.perm_ext_iff_of_nodup (hA.sublist List.filter_sublist) (hD.sublist List.filter_sublist)]
 intro a
 simp only[List.mem_filter,decide_eq_true_eq]
 exact And.comm
theorem filter_all {D:List Int} (q:Int→Bool):(D.filter q).length=D.length↔∀x∈D,q x=true:=by
 rw[List.length_filter_eq_length_iff]
theorem cnt_eq (p:Pl) (h1:∀d∈p.drops,d∉p.maps.map (·.fr)) (h2:∀d∈p.drops,d∉elIds p.over):∀l:List El,
  cnt p l=(elIds l).countP (fun x=>decide (x∈p.drops))+((elIds l).countP (fun x=>decide (x∈elIds p.over))+(elIds l).countP (fun x=>decide (x∈p.maps.map (·.fr))))
 | []=>rfl
 |e::l=>by
  have ih:=cnt_eq p h1 h2 l
  have e1:cnt p (e::l)=cntE p e+cnt p l:=by simp[cnt]
  have e2:elIds (e::l)=e.id::elIds l:=rfl
  rw[e1,e2,List.countP_cons,List.countP_cons,List.countP_cons,ih]
  unfold cntE
  by_cases hd:e.id∈p.drops
  ·have a:=h1 _ hd
   have b:=h2 _ hd
   simp only[hd,a,b,if_true,decide_true,decide_false]
   simp
   omega
  ·simp only[hd,if_false,decide_false,decide_eq_true_eq]
   simp
   omega
theorem cnt_total {p:Pl} (hp:plRight p) {l:List El} (hl:elRight l):cnt p l=p.drops.length+p.maps.length+p.over.length↔plNeed p l:=by
 obtain ⟨_,r1,_,r2,r3,_,r4,r5⟩:=hp
 have n0:=((idsRight_iff _).1 (elRight_ids hl)).2
 have n1:=((idsRight_iff _).1 r1).2
 have n2:=((idsRight_iff _).1 r2).2
 have n3:=((idsRight_iff _).1 (elRight_ids r3)).2
 rw[cnt_eq p r4 r5,countP_in n0 n2,countP_in n0 n3,countP_in n0 n1]
 have l1:=List.length_filter_le (fun x=>decide (x∈elIds l)) p.drops
 have l2:=List.length_filter_le (fun x=>decide (x∈elIds l)) (elIds p.over)
 have l3:=List.length_filter_le (fun x=>decide (x∈elIds l)) (p.maps.map (·.fr))
 have m1:(p.maps.map (·.fr)).length=p.maps.length:=by simp
 have m2:(elIds p.over).length=p.over.length:=by simp[elIds]
 have a1:=filter_all (D:=p.drops) (fun x=>decide (x∈elIds l))
 have a2:=filter_all (D:=elIds p.over) (fun x=>decide (x∈elIds l))
 have a3:=filter_all (D:=p.maps.map (·.fr)) (fun x=>decide (x∈elIds l))
 unfold plNeed
 simp only[decide_eq_true_eq] at a1 a2 a3
 rw[←a1,←a2,←a3]
 omega
/-! Elements laid one behind the other, each with another one in its place. -/
def laySub (g:El→El) (l:List (Nat×El)):List (Nat×El):=l.map fun x=>(x.1,g x.2)
theorem fold_lay {nar:Bool} {g:El→El} {f:List UInt8→Sp→El→List UInt8} (r:List UInt8):∀(l:List (Nat×El)) (A:List UInt8),(∀x∈l,(g x.2).data.length=x.2.data.length)→
  (∀(A R:List UInt8),∀x∈l,f (A++(enc nar x.2++R)) ⟨x.2.id.toNat,A.length+ahead nar,x.2.data.length⟩ (g x.2)=A++(enc nar (g x.2)++R))→
  ((layAt nar A.length l).zip (l.map fun x=>g x.2)).foldl (fun x z=>f x z.1 z.2) (A++(lay nar l++r))=A++(lay nar (laySub g l)++r)
 | [],A,_,_=>rfl
 |(n,e)::l,A,hl,hf=>by
  have e1:A++(lay nar ((n,e)::l)++r)=(A++List.replicate n 0)++(enc nar e++(lay nar l++r)):=by simp[lay]
  have hstep:=hf (A++List.replicate n 0) (lay nar l++r) (n,e) (by simp)
  have hlen:(A++List.replicate n (0:UInt8)).length=A.length+n:=by simp
  rw[hlen] at hstep
  have hge:(enc nar (g e)).length=(enc nar e).length:=by rw[enc_length,enc_length,hl (n,e) (by simp)]
  have ih:=fold_lay (f:=f) r l (A++List.replicate n 0++enc nar (g e)) (fun x hx=>hl x (by simp[hx])) (fun A R x hx=>hf A R x (by simp[hx]))
  have hlen2:(A++List.replicate n (0:UInt8)++enc nar (g e)).length=A.length+n+(enc nar e).length:=by rw[List.length_append,hlen,hge]
  rw[hlen2] at ih
  rw[layAt,List.map_cons,List.zip_cons_cons,List.foldl_cons,e1,hstep]
  have e2:(A++List.replicate n 0)++(enc nar (g e)++(lay nar l++r))=(A++List.replicate n 0++enc nar (g e))++(lay nar l++r):=by simp
  rw[e2,ih]
  simp[laySub,lay]
theorem lay_len {nar:Bool} {g:El→El}:∀(l:List (Nat×El)),(∀x∈l,(g x.2).data.length=x.2.data.length)→(lay nar (laySub g l)).length=(lay nar l).length
 | [],_=>rfl
 |(n,e)::l,h=>by
  have:=lay_len (nar:=nar) (g:=g) l (fun x hx=>h x (by simp[hx]))
  simp only[lay,laySub,List.map_cons,List.flatMap_cons,List.length_append,List.length_replicate,enc_length] at this ⊢
  have:=h (n,e) (by simp)
  simp only at this
  omega
end Go.Plain

namespace Go.Vc
open Go.ChangeShapes Go.WideShapes Go.ChangeAt Go.RowKit

/-- Data of a shape: integers fit, lengths are lengths. -/
def Ty:Sh→C→Prop
 | .int k,c=>∃n,c= .int n∧(Lit.int k n).wf=true
 | .bool,c=>∃b,c= .bool b
 | .str,c=>∃s,c= .str s∧s.length≤maxLen
 | .sl e,c=>∃l,c= .ls l∧l.length≤maxLen∧∀x∈l,Ty e x
 | .unit,c=>c= .ls []
 | .pair a b,c=>∃x l,c= .ls (x::l)∧Ty a x∧Ty b (.ls l)
 |_,_=>False
theorem lit_wf {k:IntKind} {n:Int}:(Lit.int k n).wf=true↔k.min≤n∧n≤k.max:=by
 simp[Lit.wf]
def TyAll:List Sh→List C→Prop
 | [],cs=>cs=[]
 |s::l,cs=>∃c r,cs=c::r∧Ty s c∧TyAll l r
theorem ty_int {k:IntKind} {c:C} (h:Ty (.int k) c):∃n:Int,c= .int n∧k.min≤n∧n≤k.max:=by
 obtain ⟨n,h1,h2⟩:=h
 exact ⟨n,h1,lit_wf.1 h2⟩
theorem ty_nat {k:IntKind} (hs:k.signed=false) {c:C} (h:Ty (.int k) c):∃n:Nat,c= .int n∧n<2^k.bits:=by
 obtain ⟨n,rfl,h1,h2⟩:=ty_int h
 refine ⟨n.toNat,?_,?_⟩
 ·cases k<;>simp[IntKind.signed] at hs<;>simp[IntKind.min,IntKind.signed] at h1<;>congr 1<;>omega
 ·cases k<;>simp[IntKind.signed] at hs<;>simp[IntKind.min,IntKind.max,IntKind.signed,IntKind.bits] at h1 h2 ⊢ <;>omega
theorem ty_bytes {c:C} (h:Ty (.sl (.int .u8)) c):∃b:List UInt8,c= .ls (ofBytes b):=by
 obtain ⟨l,rfl,_,hl⟩:=h
 refine ⟨l.map fun c=>UInt8.ofNat c.toInt.toNat,?_⟩
 congr 1
 simp only[ofBytes,List.map_map]
 conv=>lhs;rw[←List.map_id l]
 apply List.map_congr_left
 intro c hc
 obtain ⟨n,rfl,hn⟩:=ty_nat rfl (hl c hc)
 simp only[Function.comp,id,C.toInt_int,Int.toNat_natCast,UInt8.toNat_ofNat']
 simp[IntKind.bits] at hn
 congr 1
 omega
def goodFs (P:Program) (R:TypeId→Sh→Bool):List Field→Sh→Nat→Bool
 | [],.unit,_=>true
 |f::fs,.pair a b,off=>f.offset==off&&(P.cellsOf f.type==a.size&&(R f.type a&&(b.isAgg&&goodFs P R fs b (off+a.size))))
 |_,_,_=>false
/-- The type's values read as data of the shape. -/
def goodT (P:Program):Nat→TypeId→Sh→Bool
 |0,_,_=>false
 |n+1,t,s=>match P.underlying t,s with
  |some .bool,.bool=>true
  |some (.int k),.int k'=>decide (k=k')
  |some .string,.str=>true
  |some (.slice e),.sl s=>P.cellsOf e==s.size&&(s.size !=0&&goodT P n e s)
  |some (.struct fs),s=>s.isAgg&&(P.cellsOf t==s.size&&goodFs P (goodT P n) fs.toList s 0)
  |_,_=>false
theorem Ty.agg {s:Sh} {c:C} (hs:s.isAgg=true) (h:Ty s c):∃l,c= .ls l:=by
 cases s with
 |unit=>exact ⟨[],h⟩
 |pair a b=>obtain ⟨x,l,h,_⟩:=h;exact ⟨_,h⟩
 |_=>cases hs
theorem pick {Q:Nat→C→Prop}:∀n:Nat,(∀i,i<n→∃c,Q i c)→∃l:List C,l.length=n∧∀i c,l[i]?=some c→Q i c
 |0,_=>⟨[],rfl,fun i c h=>by simp at h⟩
 |n+1,h=>by
  obtain ⟨l,h1,h2⟩:=pick n fun i hi=>h i (by omega)
  obtain ⟨c,hc⟩:=h n (by omega)
  refine ⟨l++ [c],by simp[h1],fun i c' hi=>?_⟩
  by_cases hl:i<n
  ·rw[List.getElem?_append_left (by omega)] at hi
   exact h2 i c' hi
  ·have:i=n:=by
    have:=(List.getElem?_eq_some_iff.1 hi).1
    simp at this
    omega
   subst this
   rw[List.getElem?_append_right (by omega),h1] at hi
   simp at hi
   exact hi▸hc
section
variable {H:Type} {enc:TypeId×Value→H} {P:Program} {w:World} {base:Nat} {sp:Nat→Bool} {held:Bool}
theorem fields_rd {n m:Nat} (ih:∀t s cs fuel x,goodT P n t s=true→DataW.trod enc P w base sp held fuel t cs=some x→∃c,Rd w (fun _=>True) s cs c∧Ty s c)
  {cs:List Value}:∀(fs:List Field) (s:Sh) (off:Nat) (xs:List (DataW H×List MemPlace)),xs.length=fs.length→
   (∀(i:Nat) (f:Field),fs[i]?=some f→DataW.trod enc P w base sp held m f.type ((cs.drop f.offset).take (P.cellsOf f.type))=xs[i]?)→
   goodFs P (goodT P n) fs s off=true→cs.length=off+s.size→∃c,Rd w (fun _=>True) s (cs.drop off) c∧Ty s c:=by
 intro fs
 induction fs with
 |nil=>
  intro s off xs _ _ hg hl
  cases s<;>simp[goodFs] at hg
  exact ⟨.ls [],by simp only[Rd];apply List.drop_eq_nil_of_le;simp[Sh.size] at hl;omega,rfl⟩
 |cons f fs ihf=>
  intro s off xs hxl hx hg hl
  cases s<;>simp[goodFs] at hg
  rename_i a b
  obtain ⟨h1,h2,h3,h4,h5⟩:=hg
  cases xs with
  |nil=>simp at hxl
  |cons x xs=>
   have h0:=hx 0 f rfl
   simp only[List.getElem?_cons_zero] at h0
   rw[h1,h2] at h0
   obtain ⟨ca,r1,r2⟩:=ih _ _ _ _ _ h3 h0
   obtain ⟨cb,r3,r4⟩:=ihf b (off+a.size) xs (by simpa using hxl) (fun i g hg=>by simpa using hx (i+1) g (by simpa using hg)) h5 (by simp[Sh.size] at hl;omega)
   obtain ⟨l,rfl⟩:=r4.agg h4
   refine ⟨.ls (ca::l),⟨h4,(cs.drop off).take a.size,cs.drop (off+a.size),?_,r1,r3⟩,ca,l,rfl,r2,r4⟩
   rw[←List.drop_drop,List.take_append_drop]
theorem trod_rd:∀(n:Nat) (t:TypeId) (s:Sh) (cs:List Value) (fuel:Nat) (x:DataW H×List MemPlace),
  goodT P n t s=true→DataW.trod enc P w base sp held fuel t cs=some x→∃c,Rd w (fun _=>True) s cs c∧Ty s c:=by
 intro n
 induction n with
 |zero=>intro t s cs fuel x h;simp[goodT] at h
 |succ n ih=>
  intro t s cs fuel x hg ht
  unfold goodT at hg
  split at hg
  ·rename_i hu
   obtain ⟨b,rfl,_⟩:=DataW.trod_bool hu ht
   exact ⟨.bool b,rfl,b,rfl⟩
  ·rename_i k k' hu
   obtain ⟨m,rfl,_,hw⟩:=DataW.trod_int hu ht
   have:=of_decide_eq_true hg
   subst this
   exact ⟨.int m,rfl,m,rfl,hw⟩
  ·rename_i hu
   obtain ⟨str,rfl,_,hl⟩:=DataW.trod_string hu ht
   exact ⟨.str str.data.toList,by simp[Rd],_,rfl,by simpa using hl⟩
  ·rename_i e s hu
   simp at hg
   obtain ⟨h1,h2,h3⟩:=hg
   rcases DataW.trod_slice hu ht with ⟨rfl,_⟩|⟨a,len,cap,elems,rest,m,_,rfl,_,_,hl,hm,hlen,hel,_,_⟩
   ·exact ⟨.ls [],⟨none,0,rfl,by simp,by simp[maxLen],by simp⟩,[],rfl,by simp,by simp⟩
   ·by_cases hz:len=0
    ·subst hz
     exact ⟨.ls [],⟨some a,cap,rfl,by simp,hm,by simp⟩,[],rfl,by simp,by simp⟩
    obtain ⟨b,off,spot⟩:=a
    have cellsOk:∀i,i<len→∃us c,w.cells? base (Addr.add ⟨b,off,spot⟩ (i*s.size)) s.size=some us∧Rd w (fun _=>True) s us c∧Ty s c:=by
     intro i hi
     have h4:=hel i hi
     rw[List.getElem?_eq_getElem (by omega),Option.bind_eq_some_iff] at h4
     obtain ⟨us,h5,h6⟩:=h4
     obtain ⟨c,r1,r2⟩:=ih _ _ _ _ _ h3 h6
     exact ⟨us,c,by rw[←h1];exact h5,r1,r2⟩
    have hsp:spot=none∧b<w.heap.size:=by
     obtain ⟨us,c,h5,_⟩:=cellsOk 0 (by omega)
     obtain ⟨_,h7,h8⟩:=World.cells?_some h5
     have h9:=h8 0 (by omega)
     rw[List.getElem?_eq_getElem (by omega)] at h9
     simp[Addr.add] at h9
     refine ⟨by simpa using World.cell?_spot h9,?_⟩
     have hnn:w.heap[b]?≠none:=by
      intro hn
      simp[World.cell?,hn] at h9
     exact Nat.lt_of_not_le fun hle=>hnn (by simpa using hle)
    obtain ⟨rfl,hlt⟩:=hsp
    have each:∀i,i<len→∃c,((∃us,us.length=s.size∧CellsAt w b (off+i*s.size) us∧Rd w (fun _=>True) s us c)∧Ty s c):=by
     intro i hi
     obtain ⟨us,c,h5,r1,r2⟩:=cellsOk i hi
     obtain ⟨_,h7,h8⟩:=World.cells?_some h5
     refine ⟨c,⟨us,h7,fun j u hj=>?_,r1⟩,r2⟩
     have hj':j<s.size:=by
      have:=(List.getElem?_eq_some_iff.1 hj).1
      omega
     have h9:=h8 j hj'
     rw[hj] at h9
     have ea:∀(o k:Nat),Addr.add ⟨b,o,none⟩ k=⟨b,o+k,none⟩:=by
      intro o k
      simp only[Addr.add]
      split<;>simp_all
     rw[ea,ea] at h9
     exact h9
    obtain ⟨l,l1,l2⟩:=pick len each
    refine ⟨.ls l,⟨some ⟨b,off,none⟩,cap,by simp only[C.toList_ls,l1],by simp only[C.toList_ls,l1];exact hl,hm,fun _=>⟨b,off,rfl,trivial,hlt,fun i c hi=>(l2 i c hi).1⟩⟩,l,rfl,by omega,fun c hc=>?_⟩
    obtain ⟨i,hi⟩:=List.getElem?_of_mem hc
    exact (l2 i c hi).2
  ·rename_i fs hu
   simp at hg
   obtain ⟨h0,h1,h2⟩:=hg
   obtain ⟨xs,m,_,_,h3,h4,h5⟩:=DataW.trod_struct hu ht
   have:=fields_rd ih fs.toList _ 0 xs (by simpa using h4) (fun i f hf=>h5 i f (by simpa using hf)) h2 (by omega)
   simpa using this
  ·cases hg
theorem rdv_of {r:Reach} {b0 n:Nat} {t:TypeId} {s:Sh} {v:Value} {d:DataW H} {ps:List MemPlace} (hg:goodT P n t s=true) (hv:Value.okWide P w r b0 t v)
  (hd:DataW.Trod enc P w base sp held t v d ps):∃c,RdV w (fun _=>True) s v c∧Ty s c:=by
 obtain ⟨fuel,hf⟩:=hd
 obtain ⟨c,r1,r2⟩:=trod_rd n t s _ _ _ hg hf
 refine ⟨c,⟨_,r1,?_⟩,r2⟩
 cases n with
 |zero=>simp[goodT] at hg
 |succ n=>
  unfold goodT at hg
  split at hg
  ·rename_i hu;obtain ⟨_,rfl⟩:=okWide_bool hu hv;rfl
  ·rename_i hu;obtain ⟨_,rfl⟩:=okWide_int hu hv;rfl
  ·rename_i hu;obtain ⟨_,rfl⟩:=okWide_string hu hv;rfl
  ·rename_i hu;obtain ⟨_,_,_,rfl⟩:=okWide_slice hu hv;rfl
  ·rename_i hu
   obtain ⟨cs,rfl,_⟩:=okWide_struct hu hv
   simp at hg
   simp[Sh.mk,hg.1,Value.cells]
  ·cases hg
def goodTs (P:Program) (n:Nat):List TypeId→List Sh→Bool
 | [],[]=>true
 |t::ts,s::l=>goodT P n t s&&goodTs P n ts l
 |_,_=>false
theorem rdvs_of {r:Reach} {b0 n:Nat}:∀ {ts:List TypeId} {shs:List Sh} {vs:List Value} {ds:List (DataW H)} {ps:List MemPlace},
  goodTs P n ts shs=true→(∀(j:Nat) t v,ts[j]?=some t→vs[j]?=some v→Value.okWide P w r b0 t v)→DataW.TrodAll enc P w base sp held ts vs ds ps→
  ∃cs,RdVs w (fun _=>True) (shs.zip cs) vs∧TyAll shs cs
 | [],[],vs,ds,ps,_,_,h=>by
  cases vs with
  |nil=>exact ⟨[],rfl,rfl⟩
  |cons _ _=>simp[DataW.TrodAll] at h
 |t::ts,s::l,vs,ds,ps,hg,hv,h=>by
  cases vs with
  |nil=>simp[DataW.TrodAll] at h
  |cons v vs=>
   cases ds with
   |nil=>simp[DataW.TrodAll] at h
   |cons d ds=>
    obtain ⟨p,q,h1,h2,_⟩:=h
    simp[goodTs] at hg
    obtain ⟨c,r1,r2⟩:=rdv_of hg.1 (hv 0 t v rfl rfl) h1
    obtain ⟨cs,r3,r4⟩:=rdvs_of hg.2 (fun j t' v' ht' hv'=>hv (j+1) t' v' (by simpa using ht') (by simpa using hv')) h2
    exact ⟨c::cs,⟨v,vs,rfl,r1,r3⟩,c,cs,rfl,r2,r4⟩
 | [],_::_,_,_,_,h,_,_|_::_,[],_,_,_,h,_,_=>by simp[goodTs] at h
theorem args_stay (hl:laidOutB P=true) {W W':World} (hb:Below W.heap.size W W'):∀ {ts:List TypeId} {vs:List Value} {ds:List (DataW H)} {ps:List MemPlace},
  (ts.all fun t=>P.readableRec t&&decide (t<P.types.size))=true→DataW.TrodAll enc P W 0 (fun _=>true) true ts vs ds ps→
  DataW.TrodAll enc P W' 0 (fun b=>decide (b<W.heap.size)) true ts vs ds ps
 | [],[],[],_,_,h=>h
 |t::ts,v::vs,d::ds,ps,hr,⟨p,q,h1,h2,h3⟩=>by
  simp at hr
  have lt:∀x∈p,x.block<W.heap.size:=by
   obtain ⟨m,hm⟩:=h1
   exact DataW.trod_lt m _ _ _ hm
  exact ⟨p,q,Below.trod hl hr.1.1 hr.1.2 h1 hb lt,args_stay hl hb (by simpa using hr.2) h2,h3⟩
 | [],[],_::_,_,_,h| [],_::_,_,_,_,h|_::_,[],_,_,_,h|_::_,_::_,[],_,_,h=>by simp[DataW.TrodAll] at h
end
theorem trodAll_len {H:Type} {enc:TypeId×Value→H} {P:Program} {w:World} {base:Nat} {sp:Nat→Bool} {held:Bool}:∀ {ts:List TypeId} {vs:List Value} {ds:List (DataW H)} {ps:List MemPlace},
  DataW.TrodAll enc P w base sp held ts vs ds ps→ds.length=ts.length
 | [],[],[],_,_=>rfl
 |_::_,_::_,_::_,_,⟨_,_,_,h,_⟩=>by simp[trodAll_len h]
 | [],[],_::_,_,h| [],_::_,_,_,h|_::_,[],_,_,h|_::_,_::_,[],_,h=>by simp[DataW.TrodAll] at h
/-- A LAW's ROW, its step: for every data of its shapes the contract says 'true'. -/
theorem lifted {H:Type} {enc:TypeId×Value→H} {C:Checked} {os:Os} {f:FuncId} {fn:Func} {s:ChangeSpec} {conds:List PathCond} (hlt:f<1000000) (hkw:noTabs C.prog=true) (own:ownKnob C.prog.godebug=none) (laidOut:laidOutB C.prog=true)
  (started:os.Started) (noInit:C.prog.inits.idxOf? f=none) (hfn:C.prog.funcs[f]?=some fn)
  (witness:∃(w:World) (tape:Tape) (i:Input),w.os=os∧(w.forCall tape i).Shaped C.prog∧i.vars=[]∧Input.okWide C.prog (w.forCall tape i) .any w.heap.size f i∧
   s.pre6 enc C.prog fn conds false (w.forCall tape i).memory i.args∧({}:Assume).holds C.prog (lone (Frame.enter C.prog f i.args .normal) [] (w.forCall tape i)))
  {shs:List Sh} (hgood:goodTs C.prog 6 fn.params.toList shs=true) (hread:(fn.params.toList.all fun t=>C.prog.readableRec t&&decide (t<C.prog.types.size))=true)
  {tb:TypeId} (hres:fn.resultTypes= #[tb]) (hbool:C.prog.underlying tb=some .bool) (hvars:s.vars=[])
  (hspec:∀(ds:List (DataW H)),ds.length=fn.params.size→s.fn H ds= {results:=[.lit (.bool true)],args:=ds})
  (hpc:∀cs,TyAll shs cs→PC C.prog f (shs.zip cs) [(.bool,.bool true)]):
  ReturnsInHanded {} C os f .any (s.pre6 enc C.prog fn conds false) (s.post enc C.prog fn false true false false):=by
 refine returnsInHanded_of_change own started noInit hfn witness ?_
 intro W base args ds gs before hval hW hcnd _
 have hW':=hW
 obtain ⟨p,q,hA,hV,rfl,hfz,hnd⟩:=hW
 rw[hvars] at hV
 obtain ⟨rfl,rfl⟩:=trodVars_none hV
 obtain ⟨cs,r1,r2⟩:=rdvs_of hgood (fun j t v ht hv=>hval j t v (by simpa using ht) (by simpa using hv)) hA
 have hlen:=trodAll_len hA
 have hcall:=((hpc cs r2).to0 hlt).2 W _ args.toList (kw_none hkw W) r1
 simp only[Array.toArray_toList] at hcall
 refine hcall.mono fun e W' ⟨v,he,hv,bel⟩=>?_
 subst he
 obtain ⟨vs,hvs,hv⟩:=hv
 obtain ⟨u,r,rfl,⟨us,hu,rfl⟩,hr⟩:=hvs
 simp only[RdVs] at hr
 subst hr
 simp only[Rd] at hu
 subst hu
 simp[Sh.mk,Sh.isAgg] at hv
 subst hv
 have hsp:=hspec (ds++ []) (by simpa using hlen)
 refine ⟨_,rfl,ds,[],_,[],p,[],hW',?_,?_,?_,bel.frame _,fun h=>by cases h⟩
 ·rw[hsp,hres]
  exact trodAll_mk1 (shut_bool hbool _)
 ·rw[hsp]
  simp only[List.append_nil]
  exact args_stay laidOut bel hread hA
 ·rw[hsp,hvars]
  rfl
end Go.Vc

namespace Go.Plain
structure Pk where
 hd:Hd
 prof:Nat
 ext:List UInt8
 pay:List UInt8
 pad:Nat
 deriving DecidableEq
def Pk.zero:Pk:=⟨Hd.zero,0,[],[],0⟩
def Pk.ok (k:Pk):Prop:=k.hd.ok∧k.prof<65536
def Pk.sum (k:Pk):Nat:=12+4*k.hd.csrc.length+k.pay.length+k.pad+if k.hd.ext then 4+k.ext.length else 0
def Pk.fits (k:Pk):Prop:=k.hd.right∧k.ext.length%4=0∧k.ext.length/4≤65535∧(k.hd.ext=false→k.prof=0∧k.ext=[])∧(if k.hd.pad then 1≤k.pad∧k.pad≤255 else k.pad=0)
instance (k:Pk):Decidable k.fits:=by unfold Pk.fits;exact inferInstance
def Pk.right (k:Pk):Prop:=k.fits∧k.sum≤65535
instance (k:Pk):Decidable k.right:=by unfold Pk.right;exact inferInstance
def extB (k:Pk):List UInt8:=if k.hd.ext then toBE 2 k.prof++(toBE 2 (k.ext.length/4)++k.ext) else []
/-- The packet's bytes, with a trailer. -/
def pkLay (k:Pk) (t:List UInt8):List UInt8:=k.hd.bytes++(extB k++(k.pay++t))
def trOk (n:Nat) (t:List UInt8):Prop:=t.length=n∧(n≠0→at_ t (n-1)=n)
def trail (n:Nat):List UInt8:=if n=0 then [] else List.replicate (n-1) 0++ [UInt8.ofNat n]
def Pk.bytes (k:Pk):List UInt8:=pkLay k (trail k.pad)
theorem trail_ok {n:Nat} (h:n≤255):trOk n (trail n):=by
 unfold trOk trail
 split
 ·rename_i h;subst h;simp
 ·refine ⟨by simp;omega,fun _=>?_⟩
  simp only[at_,List.getD_eq_getElem?_getD]
  rw[List.getElem?_append_right (by simp)]
  simp
  omega
/-! Reading. -/
def trN (b:List UInt8):Nat:=if b.length=0 then 0 else if at_ b (b.length-1)<1∨b.length<at_ b (b.length-1) then 0 else at_ b (b.length-1)
/-- What stands behind the extension. -/
def pkLeft (b:List UInt8):List UInt8:=if (Hd.of b).ext then (b.drop (hdN b+4)).drop (4*num b (hdN b+2) 2) else b.drop (hdN b)
def pkE (b:List UInt8):Int:=
 if 65535<b.length then 4
 else if hdE b≠0 then hdE b
 else if (Hd.of b).ext=true∧(b.length<hdN b+4∨b.length<hdN b+4+4*num b (hdN b+2) 2) then 2
 else if (Hd.of b).pad=true∧trN (pkLeft b)=0 then 5
 else 0
def pkPad (b:List UInt8):Nat:=if (Hd.of b).pad then trN (pkLeft b) else 0
def pkRaw (b:List UInt8):Pk:=
 {hd:=Hd.of b
  prof:=if (Hd.of b).ext then num b (hdN b) 2 else 0
  ext:=if (Hd.of b).ext then (b.drop (hdN b+4)).take (4*num b (hdN b+2) 2) else []
  pay:=(pkLeft b).take ((pkLeft b).length-pkPad b)
  pad:=pkPad b}
def pkOf (b:List UInt8):Pk:=if pkE b=0 then pkRaw b else Pk.zero
def pkT (b:List UInt8):List UInt8:=if pkE b=0 then (pkLeft b).drop ((pkLeft b).length-pkPad b) else []
theorem trN_app (a t:List UInt8) (n:Nat) (h:trOk n t) (h1:1≤n):trN (a++t)=n:=by
 obtain ⟨h2,h3⟩:=h
 have h3:=h3 (by omega)
 have e:at_ (a++t) ((a++t).length-1)=n:=by
  rw[←h3]
  simp only[at_,List.getD_eq_getElem?_getD]
  rw[List.getElem?_append_right (by simp;omega)]
  congr 3
  simp;omega
 have hl:(a++t).length=a.length+n:=by rw[List.length_append,h2]
 unfold trN
 rw[e,if_neg (by omega),if_neg (by omega)]
theorem num2 (a b c:List UInt8) (v:Nat) (hb:b=toBE 2 v) (hv:v<65536):num (a++(b++c)) a.length 2=v:=by
 rw[num_app (by rw[hb,toBE_length]),hb,be_toBE]
 exact Nat.mod_eq_of_lt hv
theorem extB_length (k:Pk):(extB k).length=if k.hd.ext then 4+k.ext.length else 0:=by
 unfold extB
 split<;>simp<;>omega
theorem pkLay_length (k:Pk) (t:List UInt8) (ht:t.length=k.pad):(pkLay k t).length=k.sum:=by
 unfold pkLay Pk.sum
 simp only[List.length_append,Hd.bytes_length,extB_length,ht]
 omega
/-- A packet is read from its bytes as it was. -/
theorem Pk.back (k:Pk) (hr:k.right) (ho:k.ok) (t:List UInt8) (ht:trOk k.pad t):pkE (pkLay k t)=0∧pkRaw (pkLay k t)=k∧(pkLeft (pkLay k t)).drop ((pkLeft (pkLay k t)).length-pkPad (pkLay k t))=t:=by
 obtain ⟨⟨f1,f2,f3,f4,f5⟩,f6⟩:=hr
 obtain ⟨o1,o2⟩:=ho
 have hl:=pkLay_length k t ht.1
 obtain ⟨b1,b2,b3⟩:=Hd.back k.hd f1 o1 (extB k++(k.pay++t))
 have b1:hdE (pkLay k t)=0:=b1
 have b2:Hd.of (pkLay k t)=k.hd:=b2
 have hN:hdN (pkLay k t)=k.hd.bytes.length:=by
  unfold hdN
  rw[if_pos b1,Hd.bytes_length]
  have:at_ (pkLay k t) 0%16=k.hd.csrc.length:=b3
  rw[this]
 have hleft:pkLeft (pkLay k t)=k.pay++t∧(k.hd.ext=true→num (pkLay k t) (hdN (pkLay k t)) 2=k.prof∧num (pkLay k t) (hdN (pkLay k t)+2) 2=k.ext.length/4∧((pkLay k t).drop (hdN (pkLay k t)+4)).take (4*num (pkLay k t) (hdN (pkLay k t)+2) 2)=k.ext):=by
  unfold pkLeft
  rw[b2,hN]
  by_cases he:k.hd.ext=true
  ·have e1:pkLay k t=k.hd.bytes++(toBE 2 k.prof++(toBE 2 (k.ext.length/4)++(k.ext++(k.pay++t)))):=by
    unfold pkLay extB
    rw[if_pos he]
    simp
   have n1:num (pkLay k t) k.hd.bytes.length 2=k.prof:=by rw[e1];exact num2 _ _ _ _ rfl o2
   have n2:num (pkLay k t) (k.hd.bytes.length+2) 2=k.ext.length/4:=by
    have:=num2 (k.hd.bytes++toBE 2 k.prof) (toBE 2 (k.ext.length/4)) (k.ext++(k.pay++t)) _ rfl (by omega)
    rw[List.length_append,toBE_length,List.append_assoc] at this
    rw[e1]
    exact this
   have e4:4*(k.ext.length/4)=k.ext.length:=by omega
   have d:(pkLay k t).drop (k.hd.bytes.length+4)=k.ext++(k.pay++t):=by
    have:pkLay k t=(k.hd.bytes++(toBE 2 k.prof++toBE 2 (k.ext.length/4)))++(k.ext++(k.pay++t)):=by rw[e1];simp
    rw[this]
    apply List.drop_left'
    simp
   rw[if_pos he,n2,d,e4,n1]
   refine ⟨List.drop_left' rfl,fun _=>⟨rfl,rfl,List.take_left' rfl⟩⟩
  ·rw[if_neg he]
   refine ⟨?_,fun h=>absurd h he⟩
   unfold pkLay extB
   rw[if_neg he,List.nil_append]
   exact List.drop_left' rfl
 obtain ⟨hl1,hl2⟩:=hleft
 have hp:pkPad (pkLay k t)=k.pad:=by
  unfold pkPad
  rw[b2,hl1]
  by_cases hpd:k.hd.pad=true
  ·rw[if_pos hpd] at f5 ⊢
   exact trN_app _ _ _ ht f5.1
  ·rw[if_neg hpd] at f5 ⊢
   exact f5.symm
 have ht1:=ht.1
 refine ⟨?_,?_,?_⟩
 ·unfold pkE
  rw[if_neg (by omega),if_neg (fun h=>h b1),b2,hl1,if_neg,if_neg]
  ·rintro ⟨h1,h2⟩
   rw[if_pos h1] at f5
   rw[trN_app _ _ _ ht f5.1] at h2
   omega
  ·rintro ⟨h1,h2⟩
   obtain ⟨_,n2,_⟩:=hl2 h1
   rw[n2,hl,hN,Hd.bytes_length] at h2
   unfold Pk.sum at h2
   rw[if_pos h1] at h2
   omega
 ·unfold pkRaw
  rw[hp,hl1,b2]
  have hcut:(k.pay++t).take ((k.pay++t).length-k.pad)=k.pay:=by
   apply List.take_left'
   rw[List.length_append]
   omega
  rw[hcut]
  by_cases he:k.hd.ext=true
  ·obtain ⟨n1,_,n3⟩:=hl2 he
   rw[if_pos he,if_pos he,n1,n3]
  ·rw[if_neg he,if_neg he]
   obtain ⟨q1,q2⟩:=f4 (by simpa using he)
   rw[←q1]
   conv=>rhs;rw[show k=⟨k.hd,k.prof,k.ext,k.pay,k.pad⟩ from rfl]
   rw[q2]
 ·rw[hp,hl1]
  apply List.drop_left'
  rw[List.length_append]
  omega
theorem take_drop_app (b:List UInt8) (n m:Nat):(b.drop n).take m++b.drop (n+m)=b.drop n:=by rw[←List.drop_drop,List.take_append_drop]
theorem trN_le (b:List UInt8):trN b≤b.length∧trN b≤255∧(trN b≠0→at_ b (b.length-1)=trN b):=by
 unfold trN
 have:=at_lt b (b.length-1)
 split
 ·simp
 ·split
  ·simp
  ·refine ⟨by omega,by omega,fun _=>rfl⟩
/-- What is read of bytes is right, and has just these bytes. -/
theorem Pk.same (b:List UInt8) (h:pkE b=0):(pkRaw b).right∧(pkRaw b).ok∧trOk (pkRaw b).pad ((pkLeft b).drop ((pkLeft b).length-pkPad b))∧b=pkLay (pkRaw b) ((pkLeft b).drop ((pkLeft b).length-pkPad b)):=by
 unfold pkE at h
 split at h
 ·cases h
 rename_i hb
 split at h
 ·rename_i h2;exact absurd h h2
 rename_i h2
 have h2:hdE b=0:=by simpa using h2
 split at h
 ·cases h
 rename_i h3
 split at h
 ·cases h
 rename_i h4
 clear h
 obtain ⟨s1,s2,s3,s4⟩:=Hd.same b h2
 have hz:=hdE_zero.1 h2
 have hN:hdN b=12+4*(at_ b 0%16):=by unfold hdN;rw[if_pos h2]
 have hlb:(Hd.of b).bytes.length=hdN b:=by rw[Hd.bytes_length,s3,hN]
 have hsplit:b=(Hd.of b).bytes++b.drop (hdN b):=by
  rw[s4,←hN,List.take_append_drop]
 obtain ⟨t1,t2,t3⟩:=trN_le (pkLeft b)
 have hpd:pkPad b≤(pkLeft b).length:=by unfold pkPad;split<;>omega
 have hx:b.drop (hdN b)=extB (pkRaw b)++pkLeft b∧(pkRaw b).ext.length%4=0∧(pkRaw b).ext.length/4≤65535∧(pkRaw b).prof<65536:=by
  unfold extB pkRaw pkLeft
  simp only
  by_cases he:(Hd.of b).ext=true
  ·rw[if_pos he,if_pos he,if_pos he,if_pos he]
   have hlen:hdN b+4+4*num b (hdN b+2) 2≤b.length:=by
    have:¬(b.length<hdN b+4∨b.length<hdN b+4+4*num b (hdN b+2) 2):=fun hh=>h3 ⟨he,hh⟩
    omega
   have hn:=num_lt b (hdN b+2) 2
   have le:((b.drop (hdN b+4)).take (4*num b (hdN b+2) 2)).length=4*num b (hdN b+2) 2:=by
    simp;omega
   rw[le]
   refine ⟨?_,by omega,by omega,num_lt b (hdN b) 2⟩
   have e1:toBE 2 (num b (hdN b) 2)=(b.drop (hdN b)).take 2:=num_at (by omega)
   have e2:toBE 2 (num b (hdN b+2) 2)=(b.drop (hdN b+2)).take 2:=num_at (by omega)
   rw[show 4*num b (hdN b+2) 2/4=num b (hdN b+2) 2 by omega,e1,e2]
   rw[List.append_assoc,List.append_assoc,List.take_append_drop]
   have c1:(b.drop (hdN b+2)).take 2++b.drop (hdN b+4)=b.drop (hdN b+2):=by
    exact take_drop_app b (hdN b+2) 2
   have c2:(b.drop (hdN b)).take 2++b.drop (hdN b+2)=b.drop (hdN b):=by
    exact take_drop_app b (hdN b) 2
   rw[c1,c2]
  ·rw[if_neg he,if_neg he,if_neg he,if_neg he]
   exact ⟨by simp,by simp,by simp,by omega⟩
 obtain ⟨x1,x2,x3,x4⟩:=hx
 have hpay:(pkRaw b).pay++(pkLeft b).drop ((pkLeft b).length-pkPad b)=pkLeft b:=List.take_append_drop _ _
 have hb2:b=pkLay (pkRaw b) ((pkLeft b).drop ((pkLeft b).length-pkPad b)):=by
  unfold pkLay
  rw[hpay,←x1]
  exact hsplit
 have htl:((pkLeft b).drop ((pkLeft b).length-pkPad b)).length=(pkRaw b).pad:=by
  rw[List.length_drop]
  show _=pkPad b
  omega
 have hsum:=pkLay_length (pkRaw b) _ htl
 rw[←hb2] at hsum
 have hpadr:if (pkRaw b).hd.pad then 1≤(pkRaw b).pad∧(pkRaw b).pad≤255 else (pkRaw b).pad=0:=by
  show if (Hd.of b).pad then 1≤pkPad b∧pkPad b≤255 else pkPad b=0
  unfold pkPad
  by_cases hq:(Hd.of b).pad=true
  ·rw[if_pos hq,if_pos hq]
   have:trN (pkLeft b)≠0:=fun hh=>h4 ⟨hq,hh⟩
   omega
  ·rw[if_neg hq,if_neg hq]
 refine ⟨⟨⟨s1,x2,x3,fun he=>?_,hpadr⟩,by omega⟩,⟨s2,x4⟩,⟨htl,fun hne=>?_⟩,hb2⟩
 ·have he:(Hd.of b).ext=false:=he
  simp[pkRaw,he]
 ·have hpp:(pkRaw b).pad=pkPad b:=rfl
  rw[hpp] at hne ⊢
  have hq:pkPad b=trN (pkLeft b):=by
   unfold pkPad at hne ⊢
   split at hne
   ·rename_i hh;rw[if_pos hh]
   ·exact absurd rfl hne
  have:=t3 (by omega)
  rw[←hq] at this
  have e:at_ ((pkLeft b).drop ((pkLeft b).length-pkPad b)) (pkPad b-1)=at_ (pkLeft b) ((pkLeft b).length-1):=by
   simp only[at_,List.getD_eq_getElem?_getD,List.getElem?_drop]
   rw[show (pkLeft b).length-pkPad b+(pkPad b-1)=(pkLeft b).length-1 by omega]
  exact e.trans this
end Go.Plain

namespace Go.Plain
structure Plc where
 f:Int
 p:Nat
 s:Nat
def Plc.zero:Plc:=⟨0,0,0⟩
def endOf (l:List Plc):Nat:=match l.getLast? with|some x=>x.p+x.s|none=>0
def layL (l:List Plc) (f:Int) (n:Nat):List Plc:=if n=0 then l else l++ [⟨f,endOf l,n⟩]
def layC:Nat→List Plc→List Plc
 |0,l=>l
 |n+1,l=>layL (layC n l) 6 4
def lay5:List Plc:=layL (layL (layL (layL (layL [] 1 1) 2 1) 3 2) 4 4) 5 4
def layX (k:Pk) (l:List Plc):List Plc:=if k.hd.ext then layL (layL (layL l 7 2) 8 2) 9 k.ext.length else l
def layP (k:Pk) (l:List Plc):List Plc:=if k.hd.pad then layL (layL l 11 (k.pad-1)) 12 1 else l
def placesOf (k:Pk):List Plc:=layP k (layL (layX k (layC k.hd.csrc.length lay5)) 10 k.pay.length)
def findP (l:List Plc) (f:Int):Option Plc:=l.find? (fun x=>decide (x.f=f))
theorem endOf_lay (l:List Plc) (f:Int) (n:Nat):endOf (layL l f n)=endOf l+n:=by
 unfold layL
 split
 ·rename_i h;rw[h];rfl
 ·unfold endOf;simp
theorem find_lay (l:List Plc) (f g:Int) (n:Nat):findP (layL l f n) g=(findP l g).or (if f=g∧n≠0 then some ⟨f,endOf l,n⟩ else none):=by
 unfold layL findP
 by_cases h:n=0
 ·simp[h]
 ·rw[if_neg h,List.find?_append]
  congr 1
  by_cases hf:f=g<;>simp[hf,h]
theorem layL_len (l:List Plc) (f:Int) (n:Nat):l.length≤(layL l f n).length∧(layL l f n).length≤l.length+1:=by
 unfold layL
 split<;>simp
theorem layC_facts (n:Nat) (l:List Plc):endOf (layC n l)=endOf l+4*n∧(layC n l).length≤l.length+n∧∀g:Int,g≠6→findP (layC n l) g=findP l g:=by
 induction n with
 |zero=>exact ⟨rfl,Nat.le_refl _,fun _ _=>rfl⟩
 |succ n ih=>
  obtain ⟨h1,h2,h3⟩:=ih
  have:=layL_len (layC n l) 6 4
  refine ⟨?_,?_,fun g hg=>?_⟩
  ·rw[layC,endOf_lay,h1];omega
  ·rw[layC];omega
  ·rw[layC,find_lay,h3 g hg,if_neg (fun h=>hg h.1.symm),Option.or_none]
theorem find_fields (k:Pk):findP (placesOf k) 2=some ⟨2,1,1⟩∧findP (placesOf k) 3=some ⟨3,2,2⟩∧findP (placesOf k) 4=some ⟨4,4,4⟩∧findP (placesOf k) 5=some ⟨5,8,4⟩:=by
 have key:∀g:Int,∀x,findP lay5 g=some x→g≠6→findP (placesOf k) g=some x:=by
  intro g x hx hg
  have h1:findP (layC k.hd.csrc.length lay5) g=some x:=by rw[(layC_facts _ _).2.2 g hg,hx]
  have h2:findP (layX k (layC k.hd.csrc.length lay5)) g=some x:=by
   unfold layX
   split
   ·rw[find_lay,find_lay,find_lay,h1];rfl
   ·exact h1
  unfold placesOf layP
  split
  ·rw[find_lay,find_lay,find_lay,h2];rfl
  ·rw[find_lay,h2];rfl
 exact ⟨key 2 _ rfl (by decide),key 3 _ rfl (by decide),key 4 _ rfl (by decide),key 5 _ rfl (by decide)⟩
theorem find_ext (k:Pk):findP (placesOf k) 9=if k.hd.ext=true∧k.ext.length≠0 then some ⟨9,12+4*k.hd.csrc.length+4,k.ext.length⟩ else none:=by
 obtain ⟨h1,_,h3⟩:=layC_facts k.hd.csrc.length lay5
 have h3:=h3 9 (by decide)
 have e5:endOf lay5=12:=rfl
 have n5:findP lay5 9=none:=rfl
 have hx:findP (layX k (layC k.hd.csrc.length lay5)) 9=if k.hd.ext=true∧k.ext.length≠0 then some ⟨9,12+4*k.hd.csrc.length+4,k.ext.length⟩ else none:=by
  unfold layX
  by_cases he:k.hd.ext=true
  ·rw[if_pos he,find_lay,find_lay,find_lay,h3,n5]
   simp[he,endOf_lay,h1,e5]
  ·rw[if_neg he,h3,n5,if_neg (fun h=>he h.1)]
 unfold placesOf layP
 split
 ·rw[find_lay,find_lay,find_lay,hx];simp
 ·rw[find_lay,hx];simp
theorem placesOf_len (k:Pk):(placesOf k).length≤20+k.hd.csrc.length:=by
 obtain ⟨_,h2,_⟩:=layC_facts k.hd.csrc.length lay5
 have e5:lay5.length=5:=rfl
 rw[e5] at h2
 have hx:(layX k (layC k.hd.csrc.length lay5)).length≤8+k.hd.csrc.length:=by
  unfold layX
  split
  ·have a:=layL_len (layC k.hd.csrc.length lay5) 7 2
   have b:=layL_len (layL (layC k.hd.csrc.length lay5) 7 2) 8 2
   have c:=layL_len (layL (layL (layC k.hd.csrc.length lay5) 7 2) 8 2) 9 k.ext.length
   omega
  ·omega
 unfold placesOf layP
 have d:=layL_len (layX k (layC k.hd.csrc.length lay5)) 10 k.pay.length
 split
 ·have a:=layL_len (layL (layX k (layC k.hd.csrc.length lay5)) 10 k.pay.length) 11 (k.pad-1)
  have b:=layL_len (layL (layL (layX k (layC k.hd.csrc.length lay5)) 10 k.pay.length) 11 (k.pad-1)) 12 1
  omega
 ·omega
end Go.Plain

namespace Go.Plain
/-- x laid over b from place k on. -/
def putAt (b:List UInt8) (k:Nat) (x:List UInt8):List UInt8:=b.take k++(x++b.drop (k+x.length))
theorem putAt_mid (A x y R:List UInt8) (h:x.length=y.length):putAt (A++(x++R)) A.length y=A++(y++R):=by
 unfold putAt
 rw[List.take_left,←List.drop_drop,List.drop_left,←h,List.drop_left]
theorem putAt_mid' (A x y R:List UInt8) (n:Nat) (hn:n=A.length) (h:x.length=y.length):putAt (A++(x++R)) n y=A++(y++R):=by rw[hn];exact putAt_mid A x y R h
theorem putAt_length (b:List UInt8) (k:Nat) (x:List UInt8) (h:k+x.length≤b.length):(putAt b k x).length=b.length:=by
 unfold putAt
 simp
 omega
theorem set_putAt (b:List UInt8) (k:Nat) (y:UInt8) (h:k<b.length):b.set k y=putAt b k [y]:=by
 unfold putAt
 rw[List.set_eq_take_append_cons_drop,if_pos h]
 rfl
/-- The byte that an element begins with, with another id. -/
def idByte (nar:Bool) (id:Int) (old:Nat):UInt8:=if nar then UInt8.ofNat (id.toNat%16*16+old%16) else UInt8.ofNat id.toNat
/-- The head of an element. -/
def encH (nar:Bool) (id:Int) (n:Nat):List UInt8:=if nar then [UInt8.ofNat (16*id.toNat+n-1)] else [UInt8.ofNat id.toNat,UInt8.ofNat n]
theorem enc_split (nar:Bool) (e:El):enc nar e=encH nar e.id e.data.length++e.data:=by unfold enc encH;cases nar<;>rfl
theorem encH_length (nar:Bool) (id:Int) (n:Nat):(encH nar id n).length=ahead nar:=by unfold encH ahead;cases nar<;>rfl
/-- The id's byte written anew. -/
theorem put_id {nar:Bool} {e:El} (hf:elFits nar e) (id:Int) (h0:0≤id) (h1:nar=true→id≤14) (A R:List UInt8):
  putAt (A++(enc nar e++R)) A.length [idByte nar id (at_ (A++(enc nar e++R)) A.length)]=A++(enc nar ⟨id,e.data⟩++R):=by
 have a0:at_ (A++(enc nar e++R)) A.length=at_ (enc nar e++R) 0:=at_app_zero
 rw[a0,enc_split,enc_split]
 unfold encH idByte
 cases nar with
 |true=>
  obtain ⟨f1,f2,f3,f4⟩:=elFits_nar hf
  have h14:=h1 rfl
  simp only[if_true,List.cons_append,List.nil_append]
  have e1:at_ (UInt8.ofNat (16*e.id.toNat+e.data.length-1)::(e.data++R)) 0=16*e.id.toNat+e.data.length-1:=by
   simp only[at_,List.getD_cons_zero,UInt8.toNat_ofNat']
   omega
  rw[e1]
  have:=putAt_mid A [UInt8.ofNat (16*e.id.toNat+e.data.length-1)] [UInt8.ofNat (id.toNat%16*16+(16*e.id.toNat+e.data.length-1)%16)] (e.data++R) rfl
  simp only[List.cons_append,List.nil_append] at this
  rw[this]
  congr 3
  omega
 |false=>
  simp only[Bool.false_eq_true,if_false,List.cons_append,List.nil_append]
  have:=putAt_mid A [UInt8.ofNat e.id.toNat] [UInt8.ofNat id.toNat] (UInt8.ofNat e.data.length::(e.data++R)) rfl
  simpa using this
/-- The data written anew. -/
theorem put_data {nar:Bool} {e:El} (d:List UInt8) (hd:d.length=e.data.length) (A R:List UInt8):
  putAt (A++(enc nar e++R)) (A.length+ahead nar) d=A++(enc nar ⟨e.id,d⟩++R):=by
 rw[enc_split,enc_split]
 simp only[hd]
 have:=putAt_mid' (A++encH nar e.id e.data.length) e.data d R (A.length+ahead nar) (by rw[List.length_append,encH_length]) hd.symm
 simpa using this
/-! The packet behind a plan. -/
def plAnew (p:Pl):Prop:=p.drops≠[]∨p.adds≠[]
instance (p:Pl):Decidable (plAnew p):=by unfold plAnew;infer_instance
def plAny (p:Pl):Prop:=p.maps≠[]∨p.over≠[]∨plAnew p
instance (p:Pl):Decidable (plAny p):=by unfold plAny;infer_instance
def plKeeps (p:Pl):Prop:=¬plAnew p∧p.np=false
instance (p:Pl):Decidable (plKeeps p):=by unfold plKeeps;infer_instance
def hdNew (p:Pl) (h:Hd):Hd:=
 {h with
  mark:=if p.sm then p.m else h.mark
  typ:=if p.st then p.ty else h.typ
  seq:=if p.sq then p.seq.toNat else h.seq
  time:=if p.stm then p.time.toNat else h.time
  ssrc:=if p.ss then p.ssrc.toNat else h.ssrc
  pad:=if p.np then false else h.pad}
def plFields (p:Pl) (k:Pk):Pk:= {k with hd:=hdNew p k.hd,pad:=if p.np then 0 else k.pad}
def wasOf (k:Pk):Option (List El):=if k.hd.ext then (if (spots k.prof k.ext).2=0 then some (elRead k.prof k.ext) else none) else some []
def plElems (p:Pl) (k:Pk):Option (List El):=match wasOf k with
 |none=>none
 |some l=>if plMeets p l∧(plAnew p∨k.prof≠48862∨∀m∈p.maps,m.to≤14) then some (plOuts p l) else none
def narB (k:Pk):Bool:=decide (k.prof=48862)
def ipStep (p:Pl) (nar:Bool) (x:List UInt8) (s:Sp):List UInt8:=
 let y:=if (s.id:Int)∈p.maps.map (·.fr) then putAt x (s.pos-ahead nar) [idByte nar (newId p s.id) (at_ x (s.pos-ahead nar))] else x
 if (s.id:Int)∈elIds p.over then putAt y s.pos (newData p s.id []) else y
def plExt (p:Pl) (k:Pk):List UInt8:=(spots k.prof k.ext).1.foldl (ipStep p (narB k)) k.ext
def plOut (p:Pl) (k:Pk) (l:List El):Pk:=
 if plAny p then
  if plAnew p then {plFields p k with hd:= {hdNew p k.hd with ext:=decide (l≠[])},prof:=if l=[] then 0 else elProfile l,ext:=if l=[] then [] else elBytes l}
  else {plFields p k with ext:=plExt p k}
 else plFields p k
/-- The packet behind a plan, if the plan fits; the packet is right. -/
def behind (p:Pl) (k:Pk):Option Pk:=
 if plRight p then
  match (if plAny p then plElems p k else some []) with
  |none=>none
  |some l=>if (plOut p k l).right then some (plOut p k l) else none
 else none
theorem find_none {p:Pl} {x:Int} (h:x∉p.maps.map (·.fr)):newId p x=x:=by
 unfold newId
 rw[List.find?_eq_none.2]
 intro m hm he
 exact h (List.mem_map.2 ⟨m,hm,by simpa using he⟩)
theorem data_none {p:Pl} {x:Int} (d:List UInt8) (h:x∉elIds p.over):newData p x d=d:=by
 unfold newData
 rw[List.find?_eq_none.2]
 intro m hm he
 exact h (List.mem_map.2 ⟨m,hm,by simpa using he⟩)
theorem data_some {p:Pl} {x:Int} (d d':List UInt8) (h:x∈elIds p.over):newData p x d=newData p x d':=by
 unfold newData
 cases hf:p.over.find? (·.id==x) with
 |some e=>rfl
 |none=>
  rw[List.find?_eq_none] at hf
  obtain ⟨e,he,hx⟩:=List.mem_map.1 h
  exact absurd (by simpa using hx) (hf e he)
theorem id_mem {p:Pl} {x:Int} (h:x∈p.maps.map (·.fr)):∃m∈p.maps,m.fr=x∧newId p x=m.to:=by
 unfold newId
 cases hf:p.maps.find? (·.fr==x) with
 |some m=>exact ⟨m,List.mem_of_find?_eq_some hf,by simpa using List.find?_some hf,rfl⟩
 |none=>
  rw[List.find?_eq_none] at hf
  obtain ⟨e,he,hx⟩:=List.mem_map.1 h
  exact absurd (by simpa using hx) (hf e he)
theorem data_mem {p:Pl} {x:Int} (d:List UInt8) (h:x∈elIds p.over):∃e∈p.over,e.id=x∧newData p x d=e.data:=by
 unfold newData
 cases hf:p.over.find? (·.id==x) with
 |some m=>exact ⟨m,List.mem_of_find?_eq_some hf,by simpa using List.find?_some hf,rfl⟩
 |none=>
  rw[List.find?_eq_none] at hf
  obtain ⟨e,he,hx⟩:=List.mem_map.1 h
  exact absurd (by simpa using hx) (hf e he)
/-- The new id is an id. -/
theorem newId_lt {p:Pl} (hp:plRight p) {x:Int} (hx:1≤x∧x≤255):1≤newId p x∧newId p x≤255:=by
 by_cases h:x∈p.maps.map (·.fr)
 ·obtain ⟨m,hm,_,e⟩:=id_mem h
  have:=ids_lt hp.2.2.1 m.to (List.mem_map.2 ⟨m,hm,rfl⟩)
  rw[e];exact this
 ·rw[find_none h];exact hx
theorem newId_nar {p:Pl} (h14:∀m∈p.maps,m.to≤14) {x:Int} (hx:x≤14):newId p x≤14:=by
 by_cases h:x∈p.maps.map (·.fr)
 ·obtain ⟨m,hm,_,e⟩:=id_mem h
  rw[e];exact h14 m hm
 ·rw[find_none h];exact hx
/-- One step of the elements in place. -/
theorem ipStep_enc {p:Pl} (hp:plRight p) {nar:Bool} (h14:nar=true→∀m∈p.maps,m.to≤14) {e:El} (hf:elFits nar e) (hd:(newData p e.id e.data).length=e.data.length) (A R:List UInt8):
  ipStep p nar (A++(enc nar e++R)) ⟨e.id.toNat,A.length+ahead nar,e.data.length⟩=A++(enc nar (newEl p e)++R):=by
 have hid:1≤e.id∧e.id≤255∧(nar=true→e.id≤14):=by
  cases nar with
  |true=>have:=elFits_nar hf;exact ⟨by omega,by omega,fun _=>by omega⟩
  |false=>have:=elFits_wide hf;exact ⟨by omega,by omega,fun h=>by cases h⟩
 have ei:((e.id.toNat:Nat):Int)=e.id:=by omega
 have hn:=newId_lt hp (x:=e.id) ⟨hid.1,hid.2.1⟩
 have hsub:A.length+ahead nar-ahead nar=A.length:=by omega
 unfold ipStep
 simp only[ei,hsub]
 have h1:(if e.id∈p.maps.map (·.fr) then putAt (A++(enc nar e++R)) A.length [idByte nar (newId p e.id) (at_ (A++(enc nar e++R)) A.length)] else A++(enc nar e++R))=A++(enc nar ⟨newId p e.id,e.data⟩++R):=by
  by_cases h:e.id∈p.maps.map (·.fr)
  ·rw[if_pos h]
   exact put_id hf _ (by omega) (fun hh=>newId_nar (h14 hh) (hid.2.2 hh)) A R
  ·rw[if_neg h,find_none h]
 rw[h1]
 unfold newEl
 by_cases h:e.id∈elIds p.over
 ·rw[if_pos h,data_some [] e.data h]
  exact put_data (e:=⟨newId p e.id,e.data⟩) _ hd A R
 ·rw[if_neg h,data_none _ h]
theorem foldl_zip {α β:Type} (f:α→β→α) {γ:Type}:∀(l:List β) (m:List γ) (a:α),l.length=m.length→(l.zip m).foldl (fun x z=>f x z.1) a=l.foldl f a
 | [],_,_,_=>by simp
 |b::l,c::m,a,h=>by
  rw[List.zip_cons_cons,List.foldl_cons,List.foldl_cons]
  exact foldl_zip f l m _ (by simpa using h)
/-- The elements in place: laid as they were, each by the plan. -/
theorem fold_ip {p:Pl} (hp:plRight p) {nar:Bool} (h14:nar=true→∀m∈p.maps,m.to≤14) {l:List (Nat×El)} {r:List UInt8} (hf:∀x∈l,elFits nar x.2) (hd:∀x∈l,(newData p x.2.id x.2.data).length=x.2.data.length):
  (layAt nar 0 l).foldl (ipStep p nar) (lay nar l++r)=lay nar (laySub (newEl p) l)++r:=by
 have:=fold_lay (nar:=nar) (g:=newEl p) (f:=fun x s _=>ipStep p nar x s) r l [] (fun x hx=>hd x hx) (fun A R x hx=>ipStep_enc hp h14 (hf x hx) (hd x hx) A R)
 simp only[List.length_nil,List.nil_append] at this
 rw[←this]
 exact (foldl_zip (ipStep p nar) _ _ _ (by rw[layAt_length,List.length_map])).symm
end Go.Plain

namespace Go.Plain
/-- What is drawn at a place. -/
inductive Dr where
 |num (v n:Nat)
 |sec
 |idw (to:Int)
 |data (d:List UInt8)
structure Stk where
 field:Int
 pos:Nat
 size:Nat
 dr:Dr
/-- The second byte of a header, by a plan. -/
def secB (p:Pl) (b:Nat):Nat:=
 let x:=if p.st then b/128*128+p.ty.toNat else b
 let y:=if p.sm then x%128 else x
 if p.m then 128+y%128 else y
def Dr.draw (p:Pl) (nar:Bool) (was:List UInt8):Dr→List UInt8
 | .num v n=>toBE n v
 | .sec=> [UInt8.ofNat (secB p (at_ was 0))]
 | .idw to=> [idByte nar to (at_ was 0)]
 | .data d=>d
def stkF (p:Pl):List Stk:=
 (if p.sm=true∨p.st=true then [⟨2,1,1,.sec⟩] else [])++((if p.sq then [⟨3,2,2,.num p.seq.toNat 2⟩] else [])++((if p.stm then [⟨4,4,4,.num p.time.toNat 4⟩] else [])++(if p.ss then [⟨5,8,4,.num p.ssrc.toNat 4⟩] else [])))
def stkS (p:Pl) (nar:Bool) (fr:Nat) (s:Sp):List Stk:=
 (p.maps.filter fun m=>decide (m.fr=(s.id:Int))).map (fun m=>⟨9,fr+s.pos-ahead nar,1,.idw m.to⟩)++(p.over.filter fun e=>decide (e.id=(s.id:Int)∧e.data≠[])).map (fun e=>⟨9,fr+s.pos,s.size,.data e.data⟩)
def extAt (k:Pk):Nat:=12+4*k.hd.csrc.length+4
def stkE (p:Pl) (k:Pk):List Stk:=if k.hd.ext=true then (spots k.prof k.ext).1.flatMap (stkS p (narB k) (extAt k)) else []
def strokes (p:Pl) (k:Pk):List Stk:=stkF p++stkE p k
def draw1 (p:Pl) (nar:Bool) (b:List UInt8) (s:Stk):List UInt8:=putAt b s.pos (s.dr.draw p nar ((b.drop s.pos).take s.size))
def stayL (p:Pl) (k:Pk) (b:List UInt8):List UInt8:=(strokes p k).foldl (draw1 p (narB k)) b
theorem filter_map_one {α:Type} {l:List α} {f:α→Int} (hn:(l.map f).Nodup) {x:α} (hx:x∈l):l.filter (fun y=>decide (f y=f x))=[x]:=by
 induction l with
 |nil=>cases hx
 |cons a l ih=>
  simp only[List.map_cons,List.nodup_cons] at hn
  rcases List.mem_cons.1 hx with rfl|h
  ·rw[List.filter_cons_of_pos (by simp),List.filter_eq_nil_iff.2]
   intro y hy he
   exact hn.1 (List.mem_map.2 ⟨y,hy,by simpa using he⟩)
  ·rw[List.filter_cons_of_neg,ih hn.2 h]
   intro he
   exact hn.1 (by rw[show f a=f x by simpa using he];exact List.mem_map.2 ⟨x,h,rfl⟩)
theorem filter_map_none {α:Type} {l:List α} {f:α→Int} {x:Int} (hx:x∉l.map f):l.filter (fun y=>decide (f y=x))=[]:=by
 rw[List.filter_eq_nil_iff]
 intro y hy he
 exact hx (List.mem_map.2 ⟨y,hy,by simpa using he⟩)
theorem at_slice (b:List UInt8) (k:Nat) (h:k<b.length):at_ ((b.drop k).take 1) 0=at_ b k:=by
 rw[List.drop_eq_getElem_cons h]
 simp[at_,List.getD,h]
/-- The strokes of one spot: the element as the plan makes it. -/
theorem stk_enc {p:Pl} (hp:plRight p) {nar:Bool} (h14:nar=true→∀m∈p.maps,m.to≤14) {e:El} (hf:elFits nar e) (hd:(newData p e.id e.data).length=e.data.length) (A R:List UInt8) (fr pos:Nat) (hpos:fr+pos=A.length+ahead nar):
  (stkS p nar fr ⟨e.id.toNat,pos,e.data.length⟩).foldl (draw1 p nar) (A++(enc nar e++R))=A++(enc nar (newEl p e)++R):=by
 have hid:1≤e.id∧e.id≤255∧(nar=true→e.id≤14):=by
  cases nar with
  |true=>have:=elFits_nar hf;exact ⟨by omega,by omega,fun _=>by omega⟩
  |false=>have:=elFits_wide hf;exact ⟨by omega,by omega,fun h=>by cases h⟩
 have ei:((e.id.toNat:Nat):Int)=e.id:=by omega
 have hn:=newId_lt hp (x:=e.id) ⟨hid.1,hid.2.1⟩
 have hsub:fr+pos-ahead nar=A.length:=by omega
 have hne:0<(enc nar e).length:=by rw[enc_length];unfold ahead;split<;>omega
 have nd1:(p.maps.map (·.fr)).Nodup:=((idsRight_iff _).1 hp.2.1).2
 have nd2:(p.over.map (·.id)).Nodup:=((idsRight_iff _).1 (elRight_ids hp.2.2.2.2.1)).2
 unfold stkS
 simp only[ei,hsub]
 rw[List.foldl_append]
 have h1:((p.maps.filter fun m=>decide (m.fr=e.id)).map (fun m=>(⟨9,A.length,1,.idw m.to⟩:Stk))).foldl (draw1 p nar) (A++(enc nar e++R))=A++(enc nar ⟨newId p e.id,e.data⟩++R):=by
  by_cases h:e.id∈p.maps.map (·.fr)
  ·obtain ⟨m,hm,he,hnew⟩:=id_mem h
   rw[←he,filter_map_one nd1 hm,he,hnew]
   simp only[List.map_cons,List.map_nil,List.foldl_cons,List.foldl_nil]
   unfold draw1 Dr.draw
   simp only
   rw[at_slice _ _ (by simp;omega)]
   have:=ids_lt hp.2.2.1 m.to (List.mem_map.2 ⟨m,hm,rfl⟩)
   exact put_id hf _ (by omega) (fun hh=>h14 hh m hm) A R
  ·rw[filter_map_none h,find_none h]
   rfl
 rw[h1]
 unfold newEl
 by_cases h:e.id∈elIds p.over
 ·obtain ⟨o,ho,he,hnew⟩:=data_mem e.data h
  have hfil:(p.over.filter fun x=>decide (x.id=e.id∧x.data≠[]))=if o.data=[] then [] else [o]:=by
   have e1:(p.over.filter fun x=>decide (x.id=e.id∧x.data≠[]))=(p.over.filter fun x=>decide (x.id=e.id)).filter fun x=>decide (x.data≠[]):=by
    rw[List.filter_filter]
    congr 1
    funext x
    by_cases a:x.id=e.id<;>by_cases c:x.data=[]<;>simp[a,c]
   rw[e1,←he,filter_map_one nd2 ho]
   by_cases a:o.data=[]<;>simp[a]
  rw[hfil]
  by_cases a:o.data=[]
  ·rw[if_pos a]
   have hed:e.data=[]:=by
    rw[hnew,a] at hd
    exact List.eq_nil_of_length_eq_zero hd.symm
   rw[hnew,a,hed]
   rfl
  ·rw[if_neg a]
   simp only[List.map_cons,List.map_nil,List.foldl_cons,List.foldl_nil]
   unfold draw1 Dr.draw
   simp only
   rw[hpos,hnew]
   exact put_data (e:=⟨newId p e.id,e.data⟩) _ (by rw[←hnew];exact hd) A R
 ·have hfil:(p.over.filter fun x=>decide (x.id=e.id∧x.data≠[]))=[]:=by
   rw[List.filter_eq_nil_iff]
   intro y hy hh
   exact h (List.mem_map.2 ⟨y,hy,(by simpa using hh:y.id=e.id∧_).1⟩)
  rw[hfil,data_none _ h]
  rfl
theorem foldl_flat {α β γ:Type} (f:α→γ→α) (g:β→List γ):∀(l:List β) (a:α),(l.flatMap g).foldl f a=l.foldl (fun x s=>(g s).foldl f x) a
 | [],_=>rfl
 |b::l,a=>by
  rw[List.flatMap_cons,List.foldl_append,List.foldl_cons]
  exact foldl_flat f g l _
theorem layAt_shift (nar:Bool) (d:Nat):∀(l:List (Nat×El)) (p:Nat),layAt nar (d+p) l=(layAt nar p l).map fun s=> {s with pos:=d+s.pos}
 | [],_=>rfl
 |(n,e)::l,p=>by
  have:=layAt_shift nar d l (p+n+(enc nar e).length)
  rw[layAt,layAt,List.map_cons,←this]
  simp only[Nat.add_assoc]
/-- The strokes of all elements. -/
theorem stk_ext {p:Pl} (hp:plRight p) {nar:Bool} (h14:nar=true→∀m∈p.maps,m.to≤14) {l:List (Nat×El)} (r A:List UInt8) (hf:∀x∈l,elFits nar x.2) (hd:∀x∈l,(newData p x.2.id x.2.data).length=x.2.data.length):
  ((layAt nar 0 l).flatMap (stkS p nar A.length)).foldl (draw1 p nar) (A++(lay nar l++r))=A++(lay nar (laySub (newEl p) l)++r):=by
 rw[foldl_flat]
 have h:=fold_lay (nar:=nar) (g:=newEl p) (f:=fun x s _=>(stkS p nar 0 s).foldl (draw1 p nar) x) r l A (fun x hx=>hd x hx)
  (fun B R x hx=>stk_enc hp h14 (hf x hx) (hd x hx) B R 0 _ (by omega))
 rw[←h]
 have hz:=foldl_zip (fun (x:List UInt8) (s:Sp)=>(stkS p nar 0 s).foldl (draw1 p nar) x) (layAt nar A.length l) (l.map fun x=>newEl p x.2) (A++(lay nar l++r)) (by rw[layAt_length,List.length_map])
 rw[hz]
 have hs:=layAt_shift nar A.length l 0
 rw[Nat.add_zero] at hs
 rw[hs,List.foldl_map]
 congr 1
 funext x s
 congr 1
 unfold stkS
 simp only[Nat.zero_add]
end Go.Plain

namespace Go.Plain
theorem sec_eq {p:Pl} (hp:flagsOk p) {h:Hd} (hr:h.right):secB p h.second=(hdNew p h).second∧((¬(p.sm=true∨p.st=true))→(hdNew p h).second=h.second):=by
 obtain ⟨f1,f2,_,_,_,t0,t1⟩:=hp
 obtain ⟨r1,r2,_⟩:=hr
 unfold secB hdNew Hd.second
 simp only
 constructor
 ·cases hsm:p.sm<;>cases hst:p.st<;>cases hm:p.m<;>cases hk:h.mark<;>simp[hsm,hst,hm,hk] at* <;>omega
 ·intro hn
  cases hsm:p.sm<;>cases hst:p.st<;>simp[hsm,hst] at*
theorem draw_mid (p:Pl) (nar:Bool) (A x y R:List UInt8) (s:Stk) (hs:s.pos=A.length) (hz:s.size=x.length) (hd:s.dr.draw p nar x=y) (hl:x.length=y.length):draw1 p nar (A++(x++R)) s=A++(y++R):=by
 unfold draw1
 rw[hs,hz,List.drop_left,List.take_left,hd]
 exact putAt_mid A x y R hl
theorem hdr_fold {p:Pl} (hp:flagsOk p) (hn:plNum p) (hk:p.np=false) (nar:Bool) {h:Hd} (hr:h.right) (R:List UInt8):
  (stkF p).foldl (draw1 p nar) (h.bytes++R)=(hdNew p h).bytes++R:=by
 obtain ⟨n1,n2,n3,n4,n5,n6⟩:=hn
 obtain ⟨s1,s2⟩:=sec_eq hp hr
 have e1:(hdNew p h).first=h.first:=by unfold hdNew Hd.first;simp[hk]
 have hsl:h.second<256:=by
  obtain ⟨r1,r2,_⟩:=hr
  unfold Hd.second
  cases h.mark<;>simp<;>omega
 unfold stkF
 rw[List.foldl_append,List.foldl_append,List.foldl_append]
 unfold Hd.bytes
 rw[e1]
 have g1:(hdNew p h).seq=if p.sq then p.seq.toNat else h.seq:=rfl
 have g2:(hdNew p h).time=if p.stm then p.time.toNat else h.time:=rfl
 have g3:(hdNew p h).ssrc=if p.ss then p.ssrc.toNat else h.ssrc:=rfl
 have g4:(hdNew p h).csrc=h.csrc:=rfl
 rw[g1,g2,g3,g4]
 have t1:(if p.sm=true∨p.st=true then [(⟨2,1,1,.sec⟩:Stk)] else []).foldl (draw1 p nar) (UInt8.ofNat h.first::UInt8.ofNat h.second::(toBE 2 h.seq++(toBE 4 h.time++(toBE 4 h.ssrc++words h.csrc)))++R)=
   UInt8.ofNat h.first::UInt8.ofNat (hdNew p h).second::(toBE 2 h.seq++(toBE 4 h.time++(toBE 4 h.ssrc++words h.csrc)))++R:=by
  by_cases c:p.sm=true∨p.st=true
  ·rw[if_pos c,List.foldl_cons,List.foldl_nil]
   have:=draw_mid p nar [UInt8.ofNat h.first] [UInt8.ofNat h.second] [UInt8.ofNat (hdNew p h).second] (toBE 2 h.seq++(toBE 4 h.time++(toBE 4 h.ssrc++words h.csrc))++R) ⟨2,1,1,.sec⟩ rfl rfl (by
    unfold Dr.draw
    have:at_ [UInt8.ofNat h.second] 0=h.second:=by simp[at_];omega
    simp only[this,s1]) rfl
   simpa using this
  ·rw[if_neg c,s2 c]
   rfl
 rw[t1]
 have t2:(if p.sq=true then [(⟨3,2,2,.num p.seq.toNat 2⟩:Stk)] else []).foldl (draw1 p nar) (UInt8.ofNat h.first::UInt8.ofNat (hdNew p h).second::(toBE 2 h.seq++(toBE 4 h.time++(toBE 4 h.ssrc++words h.csrc)))++R)=
   UInt8.ofNat h.first::UInt8.ofNat (hdNew p h).second::(toBE 2 (if p.sq=true then p.seq.toNat else h.seq)++(toBE 4 h.time++(toBE 4 h.ssrc++words h.csrc)))++R:=by
  by_cases c:p.sq=true
  ·rw[if_pos c,if_pos c,List.foldl_cons,List.foldl_nil]
   have:=draw_mid p nar [UInt8.ofNat h.first,UInt8.ofNat (hdNew p h).second] (toBE 2 h.seq) (toBE 2 p.seq.toNat) (toBE 4 h.time++(toBE 4 h.ssrc++words h.csrc)++R) ⟨3,2,2,.num p.seq.toNat 2⟩ rfl (by rw[toBE_length]) rfl (by rw[toBE_length,toBE_length])
   simpa using this
  ·rw[if_neg c,if_neg c]
   rfl
 rw[t2]
 have l2:(toBE 2 (if p.sq=true then p.seq.toNat else h.seq)).length=2:=toBE_length _ _
 generalize toBE 2 (if p.sq=true then p.seq.toNat else h.seq)=q2 at*
 have t3:(if p.stm=true then [(⟨4,4,4,.num p.time.toNat 4⟩:Stk)] else []).foldl (draw1 p nar) (UInt8.ofNat h.first::UInt8.ofNat (hdNew p h).second::(q2++(toBE 4 h.time++(toBE 4 h.ssrc++words h.csrc)))++R)=
   UInt8.ofNat h.first::UInt8.ofNat (hdNew p h).second::(q2++(toBE 4 (if p.stm=true then p.time.toNat else h.time)++(toBE 4 h.ssrc++words h.csrc)))++R:=by
  by_cases c:p.stm=true
  ·rw[if_pos c,if_pos c,List.foldl_cons,List.foldl_nil]
   have:=draw_mid p nar (UInt8.ofNat h.first::UInt8.ofNat (hdNew p h).second::q2) (toBE 4 h.time) (toBE 4 p.time.toNat) (toBE 4 h.ssrc++words h.csrc++R) ⟨4,4,4,.num p.time.toNat 4⟩ (by simp[l2]) (by rw[toBE_length]) rfl (by rw[toBE_length,toBE_length])
   simpa using this
  ·rw[if_neg c,if_neg c]
   rfl
 rw[t3]
 have l3:(toBE 4 (if p.stm=true then p.time.toNat else h.time)).length=4:=toBE_length _ _
 generalize toBE 4 (if p.stm=true then p.time.toNat else h.time)=q3 at*
 by_cases c:p.ss=true
 ·rw[if_pos c,if_pos c,List.foldl_cons,List.foldl_nil]
  have:=draw_mid p nar (UInt8.ofNat h.first::UInt8.ofNat (hdNew p h).second::(q2++q3)) (toBE 4 h.ssrc) (toBE 4 p.ssrc.toNat) (words h.csrc++R) ⟨5,8,4,.num p.ssrc.toNat 4⟩ (by simp[l2,l3]) (by rw[toBE_length]) rfl (by rw[toBE_length,toBE_length])
  simpa using this
 ·rw[if_neg c,if_neg c]
  rfl
theorem isProf_nar {nar:Bool} {q:Nat} (h:isProf nar q):decide (q=48862)=nar:=by
 unfold isProf at h
 cases nar with
 |true=>simpa using h
 |false=>simp only[Bool.false_eq_true,if_false] at h;simp;omega
/-- WHAT IS CARRIED OUT IN PLACE is the packet behind the plan, with the trailer that was. -/
theorem stay_eq {p:Pl} (hp:plRight p) (hn:plNum p) (hk:plKeeps p) {k:Pk} (hr:k.right) {x:Pk} (hx:behind p k=some x) (t:List UInt8):
  stayL p k (pkLay k t)=pkLay x t∧x.pad=k.pad:=by
 obtain ⟨ha,hnp⟩:=hk
 obtain ⟨⟨f1,f2,f3,f4,f5⟩,f6⟩:=hr
 unfold behind at hx
 rw[if_pos hp] at hx
 unfold stayL strokes
 rw[List.foldl_append]
 have hfold:=hdr_fold hp.1 hn hnp (narB k) f1 (extB k++(k.pay++t))
 unfold pkLay
 rw[hfold]
 have hcs:(hdNew p k.hd).csrc=k.hd.csrc:=rfl
 have hext:(hdNew p k.hd).ext=k.hd.ext:=rfl
 by_cases hany:plAny p
 ·rw[if_pos hany] at hx
  cases hl:plElems p k with
  |none=>rw[hl] at hx;cases hx
  |some l=>
   rw[hl] at hx
   simp only at hx
   split at hx
   ·obtain rfl:=Option.some.inj hx
    unfold plElems at hl
    cases hw:wasOf k with
    |none=>rw[hw] at hl;cases hl
    |some l0=>
     rw[hw] at hl
     simp only at hl
     split at hl
     ·rename_i hm
      obtain ⟨⟨m1,m2,m3⟩,h14⟩:=hm
      unfold wasOf at hw
      by_cases he:k.hd.ext=true
      ·rw[if_pos he] at hw
       split at hw
       ·rename_i hs
        obtain rfl:=Option.some.inj hw
        obtain ⟨nar,el,r,hq,hb,hsp,hf,hst⟩:=spots_decomp hs
        obtain ⟨d1,d2⟩:=decomp_els (q:=k.prof) hb hsp hf
        have hnar:narB k=nar:=isProf_nar hq
        have hdr:p.drops=[]:=by
         cases hd:p.drops with
         |nil=>rfl
         |cons a b=>exact absurd (Or.inl (by rw[hd];simp)) ha
        have hd:∀x∈el,(newData p x.2.id x.2.data).length=x.2.data.length:=by
         intro x hx
         refine m2 x.2 ?_ (by rw[hdr];simp)
         rw[d1]
         exact List.mem_map.2 ⟨x,hx,rfl⟩
        have h14':nar=true→∀m∈p.maps,m.to≤14:=by
         intro hh
         rw[hh] at hq
         rcases h14 with h|h|h
         ·exact absurd h ha
         ·exact absurd (by simpa [isProf] using hq) h
         ·exact h
        have hplo:plOut p k l= {plFields p k with ext:=plExt p k}:=by unfold plOut;rw[if_pos hany,if_neg ha]
        have hpe:plExt p k=lay nar (laySub (newEl p) el)++r:=by
         unfold plExt
         rw[hnar,hsp]
         conv=>lhs;rw[hb]
         exact fold_ip hp h14' hf hd
        have hlen:(plExt p k).length=k.ext.length:=by
         rw[hpe,List.length_append,lay_len el hd]
         conv=>rhs;rw[hb]
         rw[List.length_append]
        rw[hplo]
        refine ⟨?_,by show (if p.np then 0 else k.pad)=k.pad;rw[hnp];rfl⟩
        unfold stkE
        rw[if_pos he,hsp,hnar]
        have e1:extB {plFields p k with ext:=plExt p k}=toBE 2 k.prof++(toBE 2 (k.ext.length/4)++plExt p k):=by
         unfold extB
         show (if k.hd.ext then _ else _)=_
         rw[if_pos he]
         show toBE 2 k.prof++(toBE 2 ((plExt p k).length/4)++plExt p k)=_
         rw[hlen]
        have e2:extB k=toBE 2 k.prof++(toBE 2 (k.ext.length/4)++k.ext):=by unfold extB;rw[if_pos he]
        rw[e1,e2]
        have hA:((hdNew p k.hd).bytes++(toBE 2 k.prof++toBE 2 (k.ext.length/4))).length=extAt k:=by
         unfold extAt
         simp only[List.length_append,Hd.bytes_length,toBE_length,hcs]
        have hs:=stk_ext hp h14' (r++(k.pay++t)) ((hdNew p k.hd).bytes++(toBE 2 k.prof++toBE 2 (k.ext.length/4))) hf hd
        rw[hA] at hs
        have g1:(hdNew p k.hd).bytes++(toBE 2 k.prof++(toBE 2 (k.ext.length/4)++k.ext)++(k.pay++t))=(hdNew p k.hd).bytes++(toBE 2 k.prof++toBE 2 (k.ext.length/4))++(lay nar el++(r++(k.pay++t))):=by
         conv=>lhs;rw[hb]
         have:(lay nar el++r).length=k.ext.length:=by rw[←hb]
         simp[this]
        rw[g1,hs,hpe]
        simp[plFields]
       ·cases hw
      ·rw[if_neg he] at hw
       obtain rfl:=Option.some.inj hw
       exfalso
       obtain ⟨q1,q2,q3⟩:=m1
       rcases hany with h|h|h
       ·cases hd:p.maps with
        |nil=>exact h hd
        |cons a b=>have:=q1 a.fr (by rw[hd];simp);simp[elIds] at this
       ·cases hd:p.over with
        |nil=>exact h hd
        |cons a b=>have:=q2 a.id (by rw[hd];simp[elIds]);simp[elIds] at this
       ·exact ha h
     ·cases hl
   ·cases hx
 ·rw[if_neg hany] at hx
  simp only at hx
  split at hx
  ·obtain rfl:=Option.some.inj hx
   have hplo:plOut p k []=plFields p k:=by unfold plOut;rw[if_neg hany]
   rw[hplo]
   refine ⟨?_,by show (if p.np then 0 else k.pad)=k.pad;rw[hnp];rfl⟩
   have hm:p.maps=[]:=by
    cases hd:p.maps with
    |nil=>rfl
    |cons a b=>exact absurd (Or.inl (by rw[hd];simp)) hany
   have ho:p.over=[]:=by
    cases hd:p.over with
    |nil=>rfl
    |cons a b=>exact absurd (Or.inr (Or.inl (by rw[hd];simp))) hany
   have hnil:stkE p k=[]:=by
    unfold stkE
    split
    ·rw[List.flatMap_eq_nil_iff]
     intro s _
     unfold stkS
     rw[hm,ho]
     rfl
    ·rfl
   rw[hnil]
   rfl
  ·cases hx
end Go.Plain

namespace Go.Plain
theorem at_put {b x:List UInt8} {k i:Nat} (h:k+x.length≤b.length) (hi:i<k∨k+x.length≤i):at_ (putAt b k x) i=at_ b i:=by
 unfold putAt
 simp only[at_,List.getD_eq_getElem?_getD]
 rcases hi with hi|hi
 ·rw[List.getElem?_append_left (by simp;omega),List.getElem?_take,if_pos hi]
 ·have ht:(b.take k).length=k:=by simp;omega
  rw[List.getElem?_append_right (by omega),ht,List.getElem?_append_right (by omega),List.getElem?_drop]
  congr 4
  omega
/-- A stroke that stays in its place. -/
def stkOk (p:Pl) (nar:Bool) (n:Nat) (s:Stk):Prop:=(∀was,(s.dr.draw p nar was).length=s.size)∧s.pos+s.size≤n
theorem draw_keep {p:Pl} {nar:Bool}:∀(l:List Stk) (b:List UInt8),(∀s∈l,stkOk p nar b.length s)→(l.foldl (draw1 p nar) b).length=b.length∧
  ∀i,(∀s∈l,i<s.pos∨s.pos+s.size≤i)→at_ (l.foldl (draw1 p nar) b) i=at_ b i
 | [],b,_=>⟨rfl,fun _ _=>rfl⟩
 |s::l,b,h=>by
  obtain ⟨h1,h2⟩:=h s (by simp)
  have hl:(draw1 p nar b s).length=b.length:=putAt_length _ _ _ (by rw[h1];exact h2)
  obtain ⟨i1,i2⟩:=draw_keep l (draw1 p nar b s) (fun x hx=>by rw[hl];exact h x (by simp[hx]))
  refine ⟨by rw[List.foldl_cons,i1,hl],fun i hi=>?_⟩
  rw[List.foldl_cons,i2 i (fun x hx=>hi x (by simp[hx]))]
  have:=hi s (by simp)
  exact at_put (by rw[h1];exact h2) (by rw[h1];exact this)
theorem layAt_mem (nar:Bool):∀(l:List (Nat×El)) (p:Nat),∀s∈layAt nar p l,∃x∈l,s.id=x.2.id.toNat∧s.size=x.2.data.length∧p+ahead nar≤s.pos∧s.pos+s.size≤p+(lay nar l).length
 | [],_,s,h=>by cases h
 |(n,e)::l,p,s,h=>by
  have e1:(lay nar ((n,e)::l)).length=n+((enc nar e).length+(lay nar l).length):=by simp[lay]
  have e2:=enc_length nar e
  rw[layAt] at h
  rcases List.mem_cons.1 h with rfl|h
  ·exact ⟨(n,e),by simp,rfl,rfl,by simp only;omega,by simp only;omega⟩
  ·obtain ⟨x,h1,h2,h3,h4,h5⟩:=layAt_mem nar l _ s h
   exact ⟨x,by simp[h1],h2,h3,by omega,by omega⟩
theorem over_data {p:Pl} (hp:plRight p) {e:El} (he:e∈p.over) (d:List UInt8):newData p e.id d=e.data:=by
 have nd2:(p.over.map (·.id)).Nodup:=((idsRight_iff _).1 (elRight_ids hp.2.2.2.2.1)).2
 obtain ⟨o,ho,h1,h2⟩:=data_mem (p:=p) (x:=e.id) d (List.mem_map.2 ⟨e,he,rfl⟩)
 have f1:=filter_map_one nd2 he
 have f2:=filter_map_one nd2 ho
 rw[h1] at f2
 rw[f1] at f2
 have:e=o:=by simpa using f2
 rw[h2,this]
/-- What fits: the elements that are there, if the plan speaks of elements. -/
theorem behind_some {p:Pl} {k x:Pk} (hx:behind p k=some x):plRight p∧∃l,(if plAny p then plElems p k=some l else l=[])∧x=plOut p k l∧x.right:=by
 unfold behind at hx
 split at hx
 ·rename_i hp
  refine ⟨hp,?_⟩
  by_cases ha:plAny p
  ·simp only[if_pos ha] at hx ⊢
   cases hl:plElems p k with
   |none=>rw[hl] at hx;cases hx
   |some l=>
    rw[hl] at hx
    simp only at hx
    split at hx
    ·rename_i hr
     obtain rfl:=Option.some.inj hx
     exact ⟨l,rfl,rfl,hr⟩
    ·cases hx
  ·simp only[if_neg ha] at hx ⊢
   split at hx
   ·rename_i hr
    obtain rfl:=Option.some.inj hx
    exact ⟨[],rfl,rfl,hr⟩
   ·cases hx
 ·cases hx
theorem plAny_not {p:Pl} (h:¬plAny p):p.maps=[]∧p.over=[]∧p.drops=[]∧p.adds=[]:=by
 unfold plAny plAnew at h
 simp only[not_or,Decidable.not_not] at h
 exact ⟨h.1,h.2.1,h.2.2⟩
theorem elems_some {p:Pl} {k:Pk} {l:List El} (h:plElems p k=some l):∃w,wasOf k=some w∧plMeets p w∧(plAnew p∨k.prof≠48862∨∀m∈p.maps,m.to≤14)∧l=plOuts p w:=by
 unfold plElems at h
 cases hw:wasOf k with
 |none=>rw[hw] at h;cases h
 |some w=>
  rw[hw] at h
  simp only at h
  split at h
  ·rename_i hm
   exact ⟨w,rfl,hm.1,hm.2,(Option.some.inj h).symm⟩
  ·cases h
/-- The strokes of a plan that fits stay in their places. -/
theorem strokes_ok {p:Pl} {k x:Pk} (hk:plKeeps p) (hx:behind p k=some x) (n:Nat) (hn:12+4*k.hd.csrc.length+(if k.hd.ext then 4+k.ext.length else 0)≤n):∀s∈strokes p k,stkOk p (narB k) n s:=by
 obtain ⟨hp,l,hl,_,_⟩:=behind_some hx
 intro s hs
 unfold strokes at hs
 rcases List.mem_append.1 hs with hs|hs
 ·unfold stkF at hs
  simp only[List.mem_append] at hs
  rcases hs with hs|hs|hs|hs
  all_goals
   split at hs
   ·obtain rfl:=List.mem_singleton.1 hs
    refine ⟨fun was=>by simp[Dr.draw],by simp only;omega⟩
   ·cases hs
 ·unfold stkE at hs
  split at hs
  ·rename_i he
   rw[if_pos he] at hn
   obtain ⟨sp,hsp,hs⟩:=List.mem_flatMap.1 hs
   by_cases hany:plAny p
   ·rw[if_pos hany] at hl
    obtain ⟨w,hw,⟨m1,m2,m3⟩,h14,_⟩:=elems_some hl
    unfold wasOf at hw
    rw[if_pos he] at hw
    split at hw
    ·rename_i hz
     obtain rfl:=Option.some.inj hw
     obtain ⟨nar,el,r,hq,hb,hsl,hf,hst⟩:=spots_decomp hz
     obtain ⟨d1,d2⟩:=decomp_els (q:=k.prof) hb hsl hf
     have hnar:narB k=nar:=isProf_nar hq
     have hdr:p.drops=[]:=by
      cases hd:p.drops with
      |nil=>rfl
      |cons a b=>exact absurd (Or.inl (by rw[hd];simp)) hk.1
     rw[hsl] at hsp
     obtain ⟨y,hy,s1,s2,s3,s4⟩:=layAt_mem nar el 0 sp hsp
     have hlen:(lay nar el).length≤k.ext.length:=by rw[hb];simp
     have hid:1≤y.2.id:=by
      have:=hf y hy
      cases nar with
      |true=>have:=elFits_nar this;omega
      |false=>have:=elFits_wide this;omega
     unfold stkS at hs
     rw[hnar] at hs ⊢
     rcases List.mem_append.1 hs with hs|hs
     ·obtain ⟨m,_,rfl⟩:=List.mem_map.1 hs
      refine ⟨fun was=>by simp[Dr.draw],?_⟩
      simp only
      unfold extAt
      have:1≤ahead nar:=by unfold ahead;split<;>omega
      omega
     ·obtain ⟨e,he2,rfl⟩:=List.mem_map.1 hs
      rw[List.mem_filter] at he2
      obtain ⟨he3,he4⟩:=he2
      have he4:e.id=(sp.id:Int)∧e.data≠[]:=by simpa using he4
      have hids:e.id=y.2.id:=by rw[he4.1,s1];omega
      have hlen2:e.data.length=sp.size:=by
       have:=m2 y.2 (by rw[d1];exact List.mem_map.2 ⟨y,hy,rfl⟩) (by rw[hdr];simp)
       rw[←hids,over_data hp he3] at this
       rw[this,s2]
      refine ⟨fun was=>by simp[Dr.draw,hlen2],?_⟩
      simp only
      unfold extAt
      omega
    ·cases hw
   ·obtain ⟨q1,q2,_⟩:=plAny_not hany
    unfold stkS at hs
    rw[q1,q2] at hs
    simp at hs
  ·cases hs
end Go.Plain

namespace Go.Plain
theorem behind_of {p:Pl} {k:Pk} {l:List El} (hp:plRight p) (hl:if plAny p then plElems p k=some l else l=[]) (hr:(plOut p k l).right):behind p k=some (plOut p k l):=by
 unfold behind
 rw[if_pos hp]
 by_cases ha:plAny p
 ·rw[if_pos ha] at hl ⊢
  rw[hl]
  simp only
  rw[if_pos hr]
 ·rw[if_neg ha] at hl ⊢
  subst hl
  simp only
  rw[if_pos hr]
/-- What a plan does to elements hangs on what it says of elements. -/
theorem plElems_congr {p q:Pl} {k k':Pk} (h1:p.maps=q.maps) (h2:p.over=q.over) (h3:p.drops=q.drops) (h4:p.adds=q.adds) (k1:k.hd.ext=k'.hd.ext) (k2:k.prof=k'.prof) (k3:k.ext=k'.ext):
  plElems p k=plElems q k'∧plExt p k=plExt q k'∧(plAny p↔plAny q)∧(plAnew p↔plAnew q):=by
 obtain ⟨sm,m,st,ty,sq,seq,stm,time,ss,ssrc,maps,over,drops,adds,np⟩:=p
 simp only at h1 h2 h3 h4
 subst h1 h2 h3 h4
 refine ⟨?_,?_,Iff.rfl,Iff.rfl⟩
 ·unfold plElems wasOf
  rw[k1,k2,k3]
  rfl
 ·unfold plExt narB
  rw[k2,k3]
  rfl
def pOne (p:Pl):Pl:= {Pl.zero with sq:=p.sq,seq:=p.seq,stm:=p.stm,time:=p.time}
def pTwo (p:Pl) (els:List El):Pl:= {Pl.zero with ss:=p.ss,ssrc:=p.ssrc,over:=els}
def pBoth (p:Pl) (els:List El):Pl:= {Pl.zero with sq:=p.sq,seq:=p.seq,stm:=p.stm,time:=p.time,ss:=p.ss,ssrc:=p.ssrc,over:=els}
theorem fits_congr {a b:Pk} (h1:a.hd.typ=b.hd.typ) (h2:a.hd.csrc=b.hd.csrc) (h3:a.hd.ext=b.hd.ext) (h4:a.hd.pad=b.hd.pad) (h5:a.prof=b.prof) (h6:a.ext=b.ext) (h7:a.pay=b.pay) (h8:a.pad=b.pad):a.right→b.right:=by
 rintro ⟨⟨⟨r1,r2,r3⟩,f2,f3,f4,f5⟩,f6⟩
 unfold Pk.sum at f6
 rw[h2,h7,h8,h3,h6] at f6
 rw[h1] at r1 r2
 rw[h2] at r3
 rw[h6] at f2 f3 f4
 rw[h3,h5] at f4
 rw[h4,h8] at f5
 exact ⟨⟨⟨r1,r2,r3⟩,f2,f3,f4,f5⟩,f6⟩
theorem order {p:Pl} {els:List El} {k x y:Pk} (hx:behind (pOne p) k=some x) (hy:behind (pTwo p els) k=some y):
  ∃z,behind (pTwo p els) x=some z∧behind (pOne p) y=some z∧behind (pBoth p els) k=some z∧plKeeps (pOne p)∧plKeeps (pTwo p els)∧plKeeps (pBoth p els):=by
 obtain ⟨p1,l1,e1,rfl,r1⟩:=behind_some hx
 obtain ⟨p2,l2,e2,rfl,r2⟩:=behind_some hy
 have n1:¬plAny (pOne p):=by unfold plAny plAnew pOne;simp[Pl.zero]
 rw[if_neg n1] at e1
 subst e1
 have a2:¬plAnew (pTwo p els):=by unfold plAnew pTwo;simp[Pl.zero]
 have a3:¬plAnew (pBoth p els):=by unfold plAnew pBoth;simp[Pl.zero]
 have o1:∀k,plOut (pOne p) k []=plFields (pOne p) k:=fun k=>by unfold plOut;rw[if_neg n1]
 have k1:plKeeps (pOne p):=⟨fun h=>n1 (.inr (.inr h)),rfl⟩
 have k2:plKeeps (pTwo p els):=⟨a2,rfl⟩
 have k3:plKeeps (pBoth p els):=⟨a3,rfl⟩
 have p3:plRight (pBoth p els):=by
  obtain ⟨⟨_,_,b1,b2,_,_,_⟩,_⟩:=p1
  obtain ⟨⟨_,_,_,_,c1,_,_⟩,c2,c3,c4,c5,c6,c7,c8⟩:=p2
  exact ⟨⟨.inr rfl,.inr rfl,b1,b2,c1,Int.le_refl _,(by decide:(0:Int)≤127)⟩,c2,c3,c4,c5,c6,c7,c8⟩
 rw[o1] at r1 hx ⊢
 have cx:=plElems_congr (p:=pTwo p els) (q:=pTwo p els) (k:=plFields (pOne p) k) (k':=k) rfl rfl rfl rfl rfl rfl rfl
 have cb:=plElems_congr (p:=pBoth p els) (q:=pTwo p els) (k:=k) (k':=k) rfl rfl rfl rfl rfl rfl rfl
 by_cases ha:plAny (pTwo p els)
 ·rw[if_pos ha] at e2
  have o2:∀k,plOut (pTwo p els) k l2= {plFields (pTwo p els) k with ext:=plExt (pTwo p els) k}:=fun k=>by unfold plOut;rw[if_pos ha,if_neg a2]
  have o3:plOut (pBoth p els) k l2= {plFields (pBoth p els) k with ext:=plExt (pBoth p els) k}:=by unfold plOut;rw[if_pos (cb.2.2.1.2 ha),if_neg a3]
  have ez:plOut (pBoth p els) k l2=plOut (pTwo p els) (plFields (pOne p) k) l2:=by rw[o3,o2,cb.2.1,cx.2.1];rfl
  have ey:plFields (pOne p) (plOut (pTwo p els) k l2)=plOut (pBoth p els) k l2:=by rw[o3,o2,cb.2.1];rfl
  have rz:(plOut (pBoth p els) k l2).right:=by
   refine fits_congr (a:=plOut (pTwo p els) k l2) ?_ ?_ ?_ ?_ ?_ ?_ ?_ ?_ r2<;>(rw[o3,o2];first|rfl|exact cb.2.1.symm)
  refine ⟨plOut (pBoth p els) k l2,?_,?_,behind_of p3 (by rw[if_pos (cb.2.2.1.2 ha),cb.1,e2]) rz,k1,k2,k3⟩
  ·rw[ez]
   exact behind_of p2 (by rw[if_pos ha,cx.1,e2]) (by rw[←ez];exact rz)
  ·rw[←ey,←o1]
   exact behind_of p1 (by rw[if_neg n1]) (by rw[o1,ey];exact rz)
 ·rw[if_neg ha] at e2
  subst e2
  have hb:¬plAny (pBoth p els):=fun h=>ha (cb.2.2.1.1 h)
  have o2:∀k,plOut (pTwo p els) k []=plFields (pTwo p els) k:=fun k=>by unfold plOut;rw[if_neg ha]
  have o3:plOut (pBoth p els) k []=plFields (pBoth p els) k:=by unfold plOut;rw[if_neg hb]
  have ez:plOut (pBoth p els) k []=plOut (pTwo p els) (plFields (pOne p) k) []:=by rw[o3,o2];rfl
  have ey:plFields (pOne p) (plOut (pTwo p els) k [])=plOut (pBoth p els) k []:=by rw[o3,o2];rfl
  have rz:(plOut (pBoth p els) k []).right:=by
   refine fits_congr (a:=plOut (pTwo p els) k []) ?_ ?_ ?_ ?_ ?_ ?_ ?_ ?_ r2<;>(rw[o3,o2];rfl)
  refine ⟨plOut (pBoth p els) k [],?_,?_,behind_of p3 (by rw[if_neg hb]) rz,k1,k2,k3⟩
  ·rw[ez]
   exact behind_of p2 (by rw[if_neg ha]) (by rw[←ez];exact rz)
  ·rw[←ey,←o1]
   exact behind_of p1 (by rw[if_neg n1]) (by rw[o1,ey];exact rz)
end Go.Plain

namespace Go.Plain
end Go.Plain
