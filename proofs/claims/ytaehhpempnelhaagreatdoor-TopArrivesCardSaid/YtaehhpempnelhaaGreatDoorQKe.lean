/-
  The walks of the functions that look into tables: feed.Code, feed.Kind, rtcp.kindOf.
-/
import Derived.Shelf.Abstract
import Derived.WalkKit
import Derived.OwnWalkIn
import Derived.TacticsInMore
import Derived.LoopNIn
import Derived.LoopIn
import Derived.RegionTactic
import Derived.ChangeAlike
import Derived.Test.YtaehhpempnelhaaGreatDoorChecked
import Derived.Test.YtaehhpempnelhaaGreatDoorQTx1
set_option maxRecDepth 100000
namespace Go.Vc
open Go Go.Proofs Go.RowKit Go.Shelf
abbrev vk:List Value:=[.int .i64 1,.int .i64 205,.int .i64 1,.int .i64 2,.int .i64 205,.int .i64 15,.int .i64 3,.int .i64 206,.int .i64 1,.int .i64 4,.int .i64 206,.int .i64 4,.int .i64 5,.int .i64 206,.int .i64 15]
theorem YZ:qN Tryz.prog "crossbar/feed.codes" =some 1:=by kernel_rfl
theorem YW:qN Tryz.prog "crossbar/rtcp.kinds" =some 0:=by kernel_rfl
theorem anP{w:World}(h:KW Tryz.prog w):∃t fz,w.heap[1]?=some (.cells vk.toArray t fz):=h.2 _ (.tail _ (.tail _ (.head _))) _ YZ
theorem anO{w:World}(h:KW Tryz.prog w):∃t fz,w.heap[0]?=some (.cells #[.int .i64 1,.int .i64 1,.int .i64 2,.int .i64 3,.int .i64 4] t fz):=h.2 _ (.tail _ (.head _)) _ YW
theorem aaF(W:World):(Instr.index 281 (.agg vk.toArray) (.int .i64 0)).run Tryz.prog W= .ok (.agg #[.int .i64 1,.int .i64 205,.int .i64 1]) W:=by kernel_rfl
theorem aaE(W:World):(Instr.index 281 (.agg vk.toArray) (.int .i64 1)).run Tryz.prog W= .ok (.agg #[.int .i64 2,.int .i64 205,.int .i64 15]) W:=by kernel_rfl
theorem aaD(W:World):(Instr.index 281 (.agg vk.toArray) (.int .i64 2)).run Tryz.prog W= .ok (.agg #[.int .i64 3,.int .i64 206,.int .i64 1]) W:=by kernel_rfl
theorem aaC(W:World):(Instr.index 281 (.agg vk.toArray) (.int .i64 3)).run Tryz.prog W= .ok (.agg #[.int .i64 4,.int .i64 206,.int .i64 4]) W:=by kernel_rfl
theorem aaB(W:World):(Instr.index 281 (.agg vk.toArray) (.int .i64 4)).run Tryz.prog W= .ok (.agg #[.int .i64 5,.int .i64 206,.int .i64 15]) W:=by kernel_rfl
theorem XQ{w:World}(h:KW Tryz.prog w):∀j u,vk[j]?=some u->w.cell? ⟨1,j,none⟩=some u:=by
 obtain ⟨t,fz,hc⟩:=anP h;intro j u hu;simp only[World.cell?,hc];rw[List.getElem?_toArray];exact hu
def jM:List (Int×Int×Int):=[(1,205,1),(2,205,15),(3,206,1),(4,206,4),(5,206,15)]
def sD(f c:Int)(l:List (Int×Int×Int)):Int:=match l.find? fun x=>x.2.1==f&&x.2.2==c with|some x=>x.1|none=>0
theorem kindG_step(f c:Int)(x:Int×Int×Int)(l:List (Int×Int×Int))(h:(x.2.1==f&&x.2.2==c)=false):sD f c (x::l)=sD f c l:=by
 unfold sD;rw[List.find?_cons,h]
theorem Zk(W0:World)(aL:KW Tryz.prog W0)(f c:Int):
  Calls Tryz.prog 117 #[.int .i64 f,.int .i64 c] W0 fun e W'=>e= .returned (.int .i64 (sD f c jM))/\Below W0.heap.size W0 W':=by
 have hc:=XQ aL;have c0:=hc 0 _ rfl;have c1:=hc 1 _ rfl;have c2:=hc 2 _ rfl;have c3:=hc 3 _ rfl;have c4:=hc 4 _ rfl;have c5:=hc 5 _ rfl;have c6:=hc 6 _ rfl;have c7:=hc 7 _ rfl;have c8:=hc 8 _ rfl;have c9:=hc 9 _ rfl;have ca:=hc 10 _ rfl;have cb:=hc 11 _ rfl;have cc:=hc 12 _ rfl;have cd:=hc 13 _ rfl;have ce:=hc 14 _ rfl;clear aL hc;have q0:=aaF;have q1:=aaE;have q2:=aaD;have q3:=aaC;have q4:=aaB;go_enter Tryz.func117,Tryz.ntmps117
 go_wp2
 go_loopw [8] (fun p W2=>∃k:Nat,p= .int .i64 (k:Int)/\k<=5/\sD f c jM=sD f c (jM.drop k)/\Below W0.heap.size W0 W2) (fun p _=>5-(intOf p).toNat)
 case atStart=>exact ⟨0,rfl,by decide,rfl,Below.refl _ _⟩
 case round=>
  obtain ⟨k,rfl,hk,hr,hb⟩:=hrel;clear c0 c1 c2 c3 c4 c5 c6 c7 c8 c9 ca cb cc cd ce;generalize hG:sD f c jM=G at hr;rcases (show k=0\/k=1\/k=2\/k=3\/k=4\/k=5 by omega) with rfl|rfl|rfl|rfl|rfl|rfl;all_goals
   clear hk;simp only[jM,pz,List.drop_succ_cons,List.drop_nil] at hr
  .by_cases hf:f=205
   .subst hf;by_cases hcc:c=1
    .subst hcc;go_wp2
     refine bodyPost_ret (results_tmp rfl _ _ _) rfl ?_;exact ⟨by rw[hG,hr];rfl,Below.alloc hb hb.size _⟩
    .have n2:((1:Int)==c)=false:=by simp;omega
     clear hcc;rw[kindG_step _ _ _ _ (by simp[n2])] at hr;go_wp2
     go_roundw
     case rel=>exact ⟨1,rfl,by decide,hr,Below.alloc hb hb.size _⟩
     case measure=>simp[intOf]
   .have n1:((205:Int)==f)=false:=by simp;omega
    clear hf;rw[kindG_step _ _ _ _ (by simp[n1])] at hr;go_wp2
    go_roundw
    case rel=>exact ⟨1,rfl,by decide,hr,Below.alloc hb hb.size _⟩
    case measure=>simp[intOf]
  .by_cases hf:f=205
   .subst hf;by_cases hcc:c=15
    .subst hcc;go_wp2
     refine bodyPost_ret (results_tmp rfl _ _ _) rfl ?_;exact ⟨by rw[hG,hr];rfl,Below.alloc hb hb.size _⟩
    .have n2:((15:Int)==c)=false:=by simp;omega
     clear hcc;rw[kindG_step _ _ _ _ (by simp[n2])] at hr;go_wp2
     go_roundw
     case rel=>exact ⟨2,rfl,by decide,hr,Below.alloc hb hb.size _⟩
     case measure=>simp[intOf]
   .have n1:((205:Int)==f)=false:=by simp;omega
    clear hf;rw[kindG_step _ _ _ _ (by simp[n1])] at hr;go_wp2
    go_roundw
    case rel=>exact ⟨2,rfl,by decide,hr,Below.alloc hb hb.size _⟩
    case measure=>simp[intOf]
  .by_cases hf:f=206
   .subst hf;by_cases hcc:c=1
    .subst hcc;go_wp2
     refine bodyPost_ret (results_tmp rfl _ _ _) rfl ?_;exact ⟨by rw[hG,hr];rfl,Below.alloc hb hb.size _⟩
    .have n2:((1:Int)==c)=false:=by simp;omega
     clear hcc;rw[kindG_step _ _ _ _ (by simp[n2])] at hr;go_wp2
     go_roundw
     case rel=>exact ⟨3,rfl,by decide,hr,Below.alloc hb hb.size _⟩
     case measure=>simp[intOf]
   .have n1:((206:Int)==f)=false:=by simp;omega
    clear hf;rw[kindG_step _ _ _ _ (by simp[n1])] at hr;go_wp2
    go_roundw
    case rel=>exact ⟨3,rfl,by decide,hr,Below.alloc hb hb.size _⟩
    case measure=>simp[intOf]
  .by_cases hf:f=206
   .subst hf;by_cases hcc:c=4
    .subst hcc;go_wp2
     refine bodyPost_ret (results_tmp rfl _ _ _) rfl ?_;exact ⟨by rw[hG,hr];rfl,Below.alloc hb hb.size _⟩
    .have n2:((4:Int)==c)=false:=by simp;omega
     clear hcc;rw[kindG_step _ _ _ _ (by simp[n2])] at hr;go_wp2
     go_roundw
     case rel=>exact ⟨4,rfl,by decide,hr,Below.alloc hb hb.size _⟩
     case measure=>simp[intOf]
   .have n1:((206:Int)==f)=false:=by simp;omega
    clear hf;rw[kindG_step _ _ _ _ (by simp[n1])] at hr;go_wp2
    go_roundw
    case rel=>exact ⟨4,rfl,by decide,hr,Below.alloc hb hb.size _⟩
    case measure=>simp[intOf]
  .by_cases hf:f=206
   .subst hf;by_cases hcc:c=15
    .subst hcc;go_wp2
     refine bodyPost_ret (results_tmp rfl _ _ _) rfl ?_;exact ⟨by rw[hG,hr];rfl,Below.alloc hb hb.size _⟩
    .have n2:((15:Int)==c)=false:=by simp;omega
     clear hcc;rw[kindG_step _ _ _ _ (by simp[n2])] at hr;go_wp2
     go_roundw
     case rel=>exact ⟨5,rfl,by decide,hr,Below.alloc hb hb.size _⟩
     case measure=>simp[intOf]
   .have n1:((206:Int)==f)=false:=by simp;omega
    clear hf;rw[kindG_step _ _ _ _ (by simp[n1])] at hr;go_wp2
    go_roundw
    case rel=>exact ⟨5,rfl,by decide,hr,Below.alloc hb hb.size _⟩
    case measure=>simp[intOf]
  .go_wp2
   refine bodyPost_ret (results_tmp rfl _ _ _) rfl ?_;exact ⟨by rw[hG,hr];rfl,hb⟩
abbrev akH:FuncId:=117
theorem VR(f c:Int):PC Tryz.prog akH [(I64,.int f),(I64,.int c)] [(I64,.int (sD f c jM))]:=by
 refine PC.oF (by decide) ⟨⟨_,Tryz.func117,by kernel_rfl,by kernel_rfl⟩,fun w N vs aL hrd=>?_⟩;obtain ⟨_,_,rfl,⟨_,rfl,rfl⟩,_,_,rfl,⟨_,rfl,rfl⟩,rfl⟩:=hrd;refine (Zk w aL f c).mono ?_;rintro e w' ⟨rfl,hbe⟩;exact ⟨_,rfl,⟨[.int .i64 (sD f c jM)],⟨_,_,rfl,⟨_,rfl,rfl⟩,rfl⟩,rfl⟩,hbe⟩
def om(k:Int)(l:List (Int×Int×Int)):Int×Int×Int:=match l.find? fun x=>x.1==k with|some x=>(x.2.1,x.2.2,0)|none=>(0,0,1)
theorem codeG_step(k:Int)(x:Int×Int×Int)(l:List (Int×Int×Int))(h:(x.1==k)=false):om k (x::l)=om k l:=by
 unfold om;rw[List.find?_cons,h]
theorem amV(W0:World)(aL:KW Tryz.prog W0)(n:Int):
  Calls Tryz.prog 146 #[.int .i64 n] W0 fun e W'=>e= .returned (.tuple #[.int .i64 (om n jM).1,.int .i64 (om n jM).2.1,.int .i64 (om n jM).2.2])/\Below W0.heap.size W0 W':=by
 have hc:=XQ aL;have c0:=hc 0 _ rfl;have c1:=hc 1 _ rfl;have c2:=hc 2 _ rfl;have c3:=hc 3 _ rfl;have c4:=hc 4 _ rfl;have c5:=hc 5 _ rfl;have c6:=hc 6 _ rfl;have c7:=hc 7 _ rfl;have c8:=hc 8 _ rfl;have c9:=hc 9 _ rfl;have ca:=hc 10 _ rfl;have cb:=hc 11 _ rfl;have cc:=hc 12 _ rfl;have cd:=hc 13 _ rfl;have ce:=hc 14 _ rfl;clear aL hc;have q0:=aaF;have q1:=aaE;have q2:=aaD;have q3:=aaC;have q4:=aaB;go_enter Tryz.func146,Tryz.ntmps146
 go_wp2
 go_loopw [8] (fun p W2=>∃k:Nat,p= .int .i64 (k:Int)/\k<=5/\om n jM=om n (jM.drop k)/\Below W0.heap.size W0 W2) (fun p _=>5-(intOf p).toNat)
 case atStart=>exact ⟨0,rfl,by decide,rfl,Below.refl _ _⟩
 case round=>
  obtain ⟨k,rfl,hk,hr,hb⟩:=hrel;clear c0 c1 c2 c3 c4 c5 c6 c7 c8 c9 ca cb cc cd ce;generalize hG:om n jM=G at hr;rcases (show k=0\/k=1\/k=2\/k=3\/k=4\/k=5 by omega) with rfl|rfl|rfl|rfl|rfl|rfl;all_goals
   clear hk;simp only[jM,pz,List.drop_succ_cons,List.drop_nil] at hr
  .by_cases hf:n=1
   .subst hf;go_wp2
    go_region
    go_wp2
    refine bodyPost_ret (results_tmp3 rfl _ _ _) rfl ?_;exact ⟨by rw[hG,hr];rfl,(Below.alloc hb hb.size _).drew⟩
   .have n1:((1:Int)==n)=false:=by simp;omega
    clear hf;rw[codeG_step _ _ _ n1] at hr;go_wp2
    go_roundw
    case rel=>exact ⟨1,rfl,by decide,hr,Below.alloc hb hb.size _⟩
    case measure=>simp[intOf]
  .by_cases hf:n=2
   .subst hf;go_wp2
    go_region
    go_wp2
    refine bodyPost_ret (results_tmp3 rfl _ _ _) rfl ?_;exact ⟨by rw[hG,hr];rfl,(Below.alloc hb hb.size _).drew⟩
   .have n1:((2:Int)==n)=false:=by simp;omega
    clear hf;rw[codeG_step _ _ _ n1] at hr;go_wp2
    go_roundw
    case rel=>exact ⟨2,rfl,by decide,hr,Below.alloc hb hb.size _⟩
    case measure=>simp[intOf]
  .by_cases hf:n=3
   .subst hf;go_wp2
    go_region
    go_wp2
    refine bodyPost_ret (results_tmp3 rfl _ _ _) rfl ?_;exact ⟨by rw[hG,hr];rfl,(Below.alloc hb hb.size _).drew⟩
   .have n1:((3:Int)==n)=false:=by simp;omega
    clear hf;rw[codeG_step _ _ _ n1] at hr;go_wp2
    go_roundw
    case rel=>exact ⟨3,rfl,by decide,hr,Below.alloc hb hb.size _⟩
    case measure=>simp[intOf]
  .by_cases hf:n=4
   .subst hf;go_wp2
    go_region
    go_wp2
    refine bodyPost_ret (results_tmp3 rfl _ _ _) rfl ?_;exact ⟨by rw[hG,hr];rfl,(Below.alloc hb hb.size _).drew⟩
   .have n1:((4:Int)==n)=false:=by simp;omega
    clear hf;rw[codeG_step _ _ _ n1] at hr;go_wp2
    go_roundw
    case rel=>exact ⟨4,rfl,by decide,hr,Below.alloc hb hb.size _⟩
    case measure=>simp[intOf]
  .by_cases hf:n=5
   .subst hf;go_wp2
    go_region
    go_wp2
    refine bodyPost_ret (results_tmp3 rfl _ _ _) rfl ?_;exact ⟨by rw[hG,hr];rfl,(Below.alloc hb hb.size _).drew⟩
   .have n1:((5:Int)==n)=false:=by simp;omega
    clear hf;rw[codeG_step _ _ _ n1] at hr;go_wp2
    go_roundw
    case rel=>exact ⟨5,rfl,by decide,hr,Below.alloc hb hb.size _⟩
    case measure=>simp[intOf]
  .go_wp2
   refine bodyPost_ret (results_tmp3 rfl _ _ _) rfl ?_;exact ⟨by rw[hG,hr];rfl,hb⟩
abbrev ajm:FuncId:=111
abbrev akI:FuncId:=146
theorem GJ(n:Int):PC Tryz.prog akI [(I64,.int n)] [(I64,.int (om n jM).1),(I64,.int (om n jM).2.1),(I64,.int (om n jM).2.2)]:=by
 refine PC.oF (by decide) ⟨⟨_,Tryz.func146,by kernel_rfl,by kernel_rfl⟩,fun w N vs aL hrd=>?_⟩;obtain ⟨_,_,rfl,⟨_,rfl,rfl⟩,rfl⟩:=hrd;refine (amV w aL n).mono ?_;rintro e w' ⟨rfl,hbe⟩;exact ⟨_,rfl,⟨[.int .i64 (om n jM).1,.int .i64 (om n jM).2.1,.int .i64 (om n jM).2.2],⟨_,_,rfl,⟨_,rfl,rfl⟩,_,_,rfl,⟨_,rfl,rfl⟩,_,_,rfl,⟨_,rfl,rfl⟩,rfl⟩,rfl⟩,hbe⟩
def kindOf(f c:Int):Int:=if 200<=f/\f<205 then ([1,1,2,3,4]:List Int).getD (f-200).toNat 0 else if sD f c jM≠0 then 5 else 6
theorem akA(W0:World)(aL:KW Tryz.prog W0)(f c:Int):
  Calls Tryz.prog 111 #[.int .i64 f,.int .i64 c] W0 fun e W'=>e= .returned (.int .i64 (kindOf f c))/\Below W0.heap.size W0 W':=by
 obtain ⟨t,fz,hk⟩:=anO aL;have c0:W0.cell? ⟨0,0,none⟩=some (.int .i64 1):=by simp[World.cell?,hk]
 have c1:W0.cell? ⟨0,1,none⟩=some (.int .i64 1):=by simp[World.cell?,hk]
 have c2:W0.cell? ⟨0,2,none⟩=some (.int .i64 2):=by simp[World.cell?,hk]
 have c3:W0.cell? ⟨0,3,none⟩=some (.int .i64 3):=by simp[World.cell?,hk]
 have c4:W0.cell? ⟨0,4,none⟩=some (.int .i64 4):=by simp[World.cell?,hk]
 have hkd:=Zk W0 aL f c;clear aL hk;go_enter Tryz.func111,Tryz.ntmps111
 by_cases hf:200<=f/\f<205
 .rcases (show f=200\/f=201\/f=202\/f=203\/f=204 by omega) with rfl|rfl|rfl|rfl|rfl;all_goals
   clear hf;go_wp2
   refine bodyPost_ret (results_tmp rfl _ _ _) rfl ?_;exact ⟨rfl,Below.refl _ _⟩
 .have e:kindOf f c=if sD f c jM≠0 then 5 else 6:=by unfold kindOf;rw[if_neg hf]
  rw[e];clear e;have hf2:¬(200<=f/\f<205):=hf;go_wp2_with (go_at_call 117;refine hkd.mono ?_;rintro e w' ⟨rfl,hbe⟩)
  all_goals
   refine bodyPost_ret (results_tmp rfl _ _ _) rfl ?_;refine ⟨?_,hbe⟩;first|rfl|(exfalso;clear hkd hbe hf hf2 c0 c1 c2 c3 c4;simp_all)
end Go.Vc
