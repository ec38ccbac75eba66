/-
  The closures of stay, walked by hand: how they are made, and what each draws.
-/
import Derived.RangeFuncBox
import Derived.RangeFuncLeaves
import Derived.Shelf.Abstract
import Derived.WalkKit
import Derived.OwnWalkIn
import Derived.TacticsInMore
import Derived.LoopNIn
import Derived.LoopIn
import Derived.Test.YtaehhpempnelhaaGreatDoorQTx9
import Derived.Test.YtaehhpempnelhaaGreatDoorQPu
import Derived.Test.YtaehhpempnelhaaGreatDoorQBase4
set_option maxRecDepth 100000
namespace Go.Vc
open Go Go.Proofs Go.Plain Go.RowKit Go.Shelf
abbrev bJ(b:Nat):Value:= .pointer (some ⟨b,0,none⟩)
theorem Ms(w:World)(v n:Int):Calls Tryz.prog 196 #[.int .u64 v,.int .i64 n] w fun e W'=>e= .returned (.func (.func 235) #[] #[bJ w.heap.size,bJ (w.heap.size+1)])/\W'=(w.alloc (.cells #[.int .u64 v] 68)).alloc (.cells #[.int .i64 n] 3):=by
 refine (callsIn_wide (n:=3)).1 ?_;refine callsIn_of_wp Tryz.func196 rfl trivial ?_ rfl;simp only[Tryz.ntmps196,List.size_toArray,bn,zy,Nat.reduceAdd,Nat.reduceSub,Array.replicate_succ,Array.replicate_zero,List.push_toArray,List.append_toArray,fJ,jc];gi_wp2
 go_ret
 exact ⟨rfl,rfl⟩
theorem adq(w:World)(v n:Int):Calls Tryz.prog 197 #[.int .i64 v,.int .u16 n] w fun e W'=>e= .returned (.func (.func 236) #[] #[bJ (w.heap.size+1),bJ w.heap.size])/\W'=(w.alloc (.cells #[.int .i64 v] 3)).alloc (.cells #[.int .u16 n] 23):=by
 refine (callsIn_wide (n:=3)).1 ?_;refine callsIn_of_wp Tryz.func197 rfl trivial ?_ rfl;simp only[Tryz.ntmps197,List.size_toArray,bn,zy,Nat.reduceAdd,Nat.reduceSub,Array.replicate_succ,Array.replicate_zero,List.push_toArray,List.append_toArray,fJ,jc];gi_wp2
 go_ret
 exact ⟨rfl,rfl⟩
theorem Y1(w:World)(cs:Array Value):Calls Tryz.prog 195 #[.agg cs] w fun e W'=>e= .returned (.func (.func 234) #[] #[bJ w.heap.size])/\W'=w.alloc (.cells cs 29):=by
 refine (callsIn_wide (n:=3)).1 ?_;refine callsIn_of_wp Tryz.func195 rfl trivial ?_ rfl;simp only[Tryz.ntmps195,List.size_toArray,bn,zy,Nat.reduceAdd,Nat.reduceSub,Array.replicate_succ,Array.replicate_zero,List.push_toArray,List.append_toArray,fJ,jc];gi_wp2
 go_ret
 exact ⟨rfl,rfl⟩
theorem ant(v n:Nat)(hv:v<256^n)(hn:n<=8):v<18446744073709551616:=zx hv (kL (CX (by decide) hn) (by decide))
def gQ(W:World)(M:Nat->Prop)(p:Pl)(aD:Nat):Dr->Value->Prop
 | .num v n,f=>∃a b,f= .func (.func 235) #[] #[bJ a,bJ b]/\M a/\M b/\Boxed W a 68 (.int .u64 (v:Int))/\Boxed W b 3 (.int .i64 (n:Int))/\v<256^n/\1<=n/\n<=8
 | .sec,f=>∃a cs,f= .func (.func 234) #[] #[bJ a]/\M a/\W.heap[a]?=some (.cells cs 29 (0,0))/\cs[0]?=some (.bool p.sm)/\cs[1]?=some (.bool p.m)/\cs[2]?=some (.bool p.st)/\cs[3]?=some (.int .i64 p.ty)
 | .nI to,f=>∃a b,f= .func (.func 236) #[] #[bJ a,bJ b]/\M a/\M b/\Boxed W a 23 (.int .u16 (aD:Int))/\Boxed W b 3 (.int .i64 to)
 | .data d,f=>∃a id dv,f= .func (.func 198) #[] #[bJ a]/\M a/\W.heap[a]?=some (.cells #[.int .i64 id,dv] 103 (0,0))/\bq W M aQ dv (B d)
theorem gQ.mono{W W':World}{M M':Nat->Prop}{p:Pl}{aD:Nat}{dr:Dr}{f:Value}(hs:W.heap.size<=W'.heap.size)(hk:∀b,M b->b<W.heap.size->W'.heap[b]?=W.heap[b]?/\M' b)(h:gQ W M p aD dr f):gQ W' M' p aD dr f:=by
 cases dr with
 |num v n=>
  obtain ⟨a,b,rfl,m1,m2,b1,b2,h3⟩:=h;exact ⟨a,b,rfl,(hk a m1 b1.lt).2,(hk b m2 b2.lt).2,(hk a m1 b1.lt).1.trans b1,(hk b m2 b2.lt).1.trans b2,h3⟩
 |sec=>
  obtain ⟨a,cs,rfl,m1,h1,h2⟩:=h;have hlt:=(fu.1 h1).1;exact ⟨a,cs,rfl,(hk a m1 hlt).2,(hk a m1 hlt).1.trans h1,h2⟩
 |nI to=>
  obtain ⟨a,b,rfl,m1,m2,b1,b2⟩:=h;exact ⟨a,b,rfl,(hk a m1 b1.lt).2,(hk b m2 b2.lt).2,(hk a m1 b1.lt).1.trans b1,(hk b m2 b2.lt).1.trans b2⟩
 |data d=>
  obtain ⟨a,id,dv,rfl,m1,h1,h2⟩:=h;have hlt:=(fu.1 h1).1;exact ⟨a,id,dv,rfl,(hk a m1 hlt).2,(hk a m1 hlt).1.trans h1,h2.mono hs hk⟩
theorem alf(W:World)(aL:KW Tryz.prog W)(a b v n:Nat)(wv:Value)(h1:Boxed W a 68 (.int .u64 (v:Int)))(h2:Boxed W b 3 (.int .i64 (n:Int)))(hv:v<256^n)(hn:1<=n/\n<=8):
  Calls Tryz.prog 235 (#[wv]++ #[bJ a,bJ b]) W fun e W'=>∃r,e= .returned r/\bq W' (fun b=>W.heap.size<=b) aQ r (B (bT n v))/\Below W.heap.size W W':=by
 have c1:=h1.cell;have c2:=h2.cell;have h64:v<18446744073709551616:=ant v n hv hn.2;have hp:=(PC.mq (by decide) (tK v (n:Int) h64)).2 W (fun _=>False) [.int .u64 (v:Int),.int .i64 (n:Int)] aL ⟨_,_,rfl,⟨_,rfl,rfl⟩,_,_,rfl,⟨_,rfl,rfl⟩,rfl⟩;have e0:ow v (n:Int)=0:=zA.2 ⟨by omega,by omega,by simpa using hv⟩;have eb:dP v (n:Int)=bT n v:=by unfold dP;rw[if_pos e0];simp
 rw[e0,eb] at hp;refine (callsIn_wide (n:=3)).1 ?_;refine callsIn_of_wp Tryz.func235 rfl trivial ?_ rfl;simp only[Tryz.ntmps235,List.size_toArray,bn,zy,Nat.reduceAdd,Nat.reduceSub,Array.replicate_succ,Array.replicate_zero,List.push_toArray,List.append_toArray,fJ,jc];gi_wp2_with (refine ⟨trivial,?_⟩;gi_at_call 221;refine (callsIn_wide.2 hp).mono ?_;rintro e w' ⟨r,rfl,⟨vs,⟨v1,r1,rfl,hv1,v2,r2,rfl,⟨_,hv2,rfl⟩,rfl⟩,rfl⟩,hb⟩;simp only[Rd] at hv2;subst hv2)
 go_ret
 exact ⟨_,rfl,hv1.mono (aI _) (fun b hb _=>⟨rfl,by simpa using hb⟩),hb⟩
theorem abW(W:World)(x:Nat):bq (W.alloc (.cells #[.int .u8 ((UInt8.ofNat x).toNat:Int)] 5)) (fun b=>W.heap.size<=b) aQ (.slice (some ⟨W.heap.size,0,none⟩) 1 1) (B [UInt8.ofNat x]):=by
 refine ⟨[.slice (some ⟨W.heap.size,0,none⟩) 1 1],⟨some ⟨W.heap.size,0,none⟩,1,by simp[B,ofBytes],by simp[B,ofBytes],by decide,fun _=>⟨W.heap.size,0,rfl,aI _,by simp,?_⟩⟩,by simp[Sh.mk,Sh.isAgg]⟩;intro i c hc;have h:=World.alloc_heap_new W (.cells #[.int .u8 ((UInt8.ofNat x).toNat:Int)] 5);match i,hc with
 |0,hc=>
  have hc:C.int ((UInt8.ofNat x).toNat:Int)=c:=by simpa [B,ofBytes] using hc
  subst hc;refine ⟨[.int .u8 ((UInt8.ofNat x).toNat:Int)],rfl,fun j u hj=>?_,rfl⟩;match j,hj with
  |0,hj=>
   obtain rfl:Value.int .u8 ((UInt8.ofNat x).toNat:Int)=u:=by simpa using hj
   show (match (W.alloc _).heap[W.heap.size]? with|some (.cells c _ _)=>_|_=>none)=_;rw[h];rfl
theorem anh(W:World)(a:Nat)(id:Int)(dv wv:Value)(h1:W.heap[a]?=some (.cells #[.int .i64 id,dv] 103 (0,0))):Calls Tryz.prog 198 (#[wv]++ #[bJ a]) W fun e W'=>e= .returned dv/\W'=W:=by
 have c1:W.cell? ⟨a,1,none⟩=some dv:=by simp[World.cell?,h1]
 refine (callsIn_wide (n:=3)).1 ?_;refine callsIn_of_wp Tryz.func198 rfl trivial ?_ rfl;simp only[Tryz.ntmps198,List.size_toArray,bn,zy,Nat.reduceAdd,Nat.reduceSub,Array.replicate_succ,Array.replicate_zero,List.push_toArray,List.append_toArray,fJ,jc];gi_wp2
 go_ret
 exact ⟨rfl,rfl⟩
theorem amd(p : Pl)(ht : 0 <= p.ty /\ p.ty <= 127)(b : Nat)(hb : b < 256) :
    (let x := if p.st = true then arith .or .u8 (arith .and .u8 (b : Int) 128) (IntKind.u8.wrap p.ty) else (b : Int)
     let y := if p.sm = true then arith .and .u8 x 127 else x
     if p.m = true then arith .or .u8 y 128 else y) = ((UInt8.ofNat (JU p b)).toNat : Int) := by
  obtain ⟨t, ht2⟩ : ∃ t : Nat, p.ty = t := ⟨p.ty.toNat, by omega⟩;have t1 : ∀ x : Fin 256, arith .and .u8 (x.1 : Int) 128 = ((x.1 / 128 * 128 : Nat) : Int) /\ arith .and .u8 (x.1 : Int) 127 = ((x.1 % 128 : Nat) : Int) /\ arith .or .u8 (x.1 : Int) 128 = ((128 + x.1 % 128 : Nat) : Int) := by decide +kernel
  have a1 : ∀ x : Nat, x < 256 -> arith .and .u8 (x : Int) 128 = ((x / 128 * 128 : Nat) : Int) := fun x h => (t1 ⟨x, h⟩).1;have a2 : ∀ x : Nat, x < 256 -> arith .and .u8 (x : Int) 127 = ((x % 128 : Nat) : Int) := fun x h => (t1 ⟨x, h⟩).2.1;have a3 : ∀ x : Nat, x < 256 -> arith .or .u8 (x : Int) 128 = ((128 + x % 128 : Nat) : Int) := fun x h => (t1 ⟨x, h⟩).2.2;have e1 : IntKind.u8.wrap p.ty = (t : Int) := by rw [ht2, lY]; omega
  have a4 : arith .or .u8 (arith .and .u8 (b : Int) 128) (IntKind.u8.wrap p.ty) = ((b / 128 * 128 + t : Nat) : Int) := by
    rw [a1 b hb, e1, show b / 128 * 128 = b / 128 * 2 ^ 7 from rfl, wY rfl (by show _ < 2 ^ 8; omega) (by show _ < 2 ^ 8; omega), vG _ _ _ (by omega)]
  have e2 : p.ty.toNat = t := by omega
  simp only [JU];rw [a4, e2];have hx : (if p.st = true then ((b / 128 * 128 + t : Nat) : Int) else (b : Int)) = ((if p.st = true then b / 128 * 128 + t else b : Nat) : Int) := by split <;> rfl
  rw [hx];have hxl : (if p.st = true then b / 128 * 128 + t else b) < 256 := by split <;> omega
  generalize (if p.st = true then b / 128 * 128 + t else b) = x at hxl;rw [a2 x hxl];have hy : (if p.sm = true then ((x % 128 : Nat) : Int) else (x : Int)) = ((if p.sm = true then x % 128 else x : Nat) : Int) := by split <;> rfl
  rw [hy];have hyl : (if p.sm = true then x % 128 else x) < 256 := by split <;> omega
  generalize (if p.sm = true then x % 128 else x) = y at hyl;rw [a3 y hyl];rw [mh];split <;> omega
theorem ale(W:World)(a:Nat)(cs:Array Value)(p:Pl)(ht:0<=p.ty/\p.ty<=127)(h1:W.heap[a]?=some (.cells cs 29 (0,0)))(q0:cs[0]?=some (.bool p.sm))(q1:cs[1]?=some (.bool p.m))(q2:cs[2]?=some (.bool p.st))(q3:cs[3]?=some (.int .i64 p.ty))
  (g off n cap b:Nat) (hn:1<=n) (hb:b<256) (hc:W.cell? ⟨g,off,none⟩=some (.int .u8 (b:Int))):
  Calls Tryz.prog 234 (#[.slice (some ⟨g,off,none⟩) n cap]++ #[bJ a]) W fun e W'=>e= .returned (.slice (some ⟨W.heap.size,0,none⟩) 1 1)/\W'=W.alloc (.cells #[.int .u8 ((UInt8.ofNat (JU p b)).toNat:Int)] 5):=by
 have c0:W.cell? ⟨a,0,none⟩=some (.bool p.sm):=by simp[World.cell?,h1,q0]
 have c1:W.cell? ⟨a,1,none⟩=some (.bool p.m):=by simp[World.cell?,h1,q1]
 have c2:W.cell? ⟨a,2,none⟩=some (.bool p.st):=by simp[World.cell?,h1,q2]
 have c3:W.cell? ⟨a,3,none⟩=some (.int .i64 p.ty):=by simp[World.cell?,h1,q3]
 have i0:(0:Int)<n:=by omega
 refine (callsIn_wide (n:=3)).1 ?_;refine callsIn_of_wp Tryz.func234 rfl trivial ?_ rfl;simp only[Tryz.ntmps234,List.size_toArray,bn,zy,Nat.reduceAdd,Nat.reduceSub,Array.replicate_succ,Array.replicate_zero,List.push_toArray,List.append_toArray,fJ,jc];cases hst:p.st<;>cases hsm:p.sm<;>cases hm:p.m<;>simp only[hst,hsm,hm] at c0 c1 c2;all_goals
  gi_wp2
  go_ret
  have ha:=amd p ht b hb;simp only[hst,hsm,hm,if_true,rA,if_false] at ha;rw[<-ha];refine ⟨rfl,?_⟩;first|rfl|(rw[lY];rfl)
theorem aaI(W:World)(u:UInt8)(n:Int)(hn:n=(u.toNat:Int)):bq (W.alloc (.cells #[.int .u8 n] 5)) (fun b=>W.heap.size<=b) aQ (.slice (some ⟨W.heap.size,0,none⟩) 1 1) (B [u]):=by
 have h:=abW W u.toNat;rw[show UInt8.ofNat u.toNat=u from by simp] at h;rw[hn];exact h
theorem apL(W:World)(a b:Nat)(to:Int)(aD:Nat)(h1:Boxed W a 23 (.int .u16 (aD:Int)))(h2:Boxed W b 3 (.int .i64 to))(ht:1<=to/\to<=255)
  (g off n cap x:Nat) (hn:1<=n) (hb:x<256) (hc:W.cell? ⟨g,off,none⟩=some (.int .u8 (x:Int))):
  Calls Tryz.prog 236 (#[.slice (some ⟨g,off,none⟩) n cap]++ #[bJ a,bJ b]) W fun e W'=>∃r,e= .returned r/\bq W' (fun b=>W.heap.size<=b) aQ r (B [nV (decide (aD=48862)) to x])/\Below W.heap.size W W':=by
 have c1:=h1.cell;have c2:=h2.cell;have i0:(0:Int)<n:=by omega
 refine (callsIn_wide (n:=3)).1 ?_;refine callsIn_of_wp Tryz.func236 rfl trivial ?_ rfl;simp only[Tryz.ntmps236,List.size_toArray,bn,zy,Nat.reduceAdd,Nat.reduceSub,Array.replicate_succ,Array.replicate_zero,List.push_toArray,List.append_toArray,fJ,jc];have d1:W.drew.cell? ⟨a,0,none⟩=some (.int .u16 (aD:Int)):=c1;have d2:W.drew.cell? ⟨b,0,none⟩=some (.int .i64 to):=c2;have d3:W.drew.cell? ⟨g,off,none⟩=some (.int .u8 (x:Int)):=hc;by_cases hp:aD=48862
 .subst hp;have hi:Go.bits .or .u8 (to%256*16%256) ((x:Int)%16)=((nV true to x).toNat:Int):=by
   rw[<-NV to ht x hb,Oy x hb,lY,pU,lY];rfl
  gi_wp2
  gi_region
  gi_wp2
  go_ret
  exact ⟨_,rfl,(aaI W (nV true to x) _ rfl).mono (aI _) (fun b hb _=>⟨rfl,hb⟩),((Below.refl _ W).alloc (aI _) _).drew⟩
 .have hp2:¬(aD:Int)=48862:=by omega
  have hi:=Ng to ht x;rw[lY] at hi;gi_wp2
  go_ret
  rw[decide_eq_false hp];exact ⟨_,rfl,aaI W (nV false to x) _ rfl,(Below.refl _ W).alloc (aI _) _⟩
end Go.Vc
