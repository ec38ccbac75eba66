/-
  Contracts of functions of the program, each out of its condition or by a walk, and plain lemmas.
-/
import Derived.Test.YtaehhpempnelhaaGreatDoorQJb
import Derived.Test.YtaehhpempnelhaaGreatDoorQVcs1
import Derived.Test.YtaehhpempnelhaaGreatDoorQTx5
import Derived.Test.YtaehhpempnelhaaGreatDoorQBase3
set_option maxRecDepth 100000
namespace Go.Vc
open Go Go.Proofs Go.Plain
theorem ajh(l:List Nat)(hne:l≠[])(ho:mg l):PC Tryz.prog 284 [(.sl I64,Ns l)] [(U16,.int (jK l:Nat)),(I64,.int (fM l:Nat))]:=by
 refine PC.oF (by decide) ⟨⟨_,Tryz.func284,rfl,by kernel_rfl⟩,fun w N vs aL hvs=>?_⟩;obtain ⟨v1,r,rfl,hv1,rfl⟩:=hvs;refine (apr w aL N v1 l hv1 hne ho).mono ?_;rintro e W' ⟨rfl,hbel⟩;exact ⟨_,rfl,⟨[.int .u16 (jK l:Nat),.int .i64 (fM l:Nat)],⟨_,_,rfl,⟨_,rfl,rfl⟩,_,_,rfl,⟨_,rfl,rfl⟩,rfl⟩,rfl⟩,hbel⟩
def yD(l:List Int):Prop:=∀x∈l,0<=x/\x<=2
instance(l:List Int):Decidable (yD l):=by unfold yD;exact inferInstance
def uy(l:List Int):List Nat:=l.map Int.toNat
theorem anI{l:List Int}(h:yD l):mg (uy l)/\Ints l=Ns (uy l):=by
 refine ⟨fun x hx=>?_,?_⟩
 .simp only[uy,gK] at hx;obtain ⟨y,hy,rfl⟩:=hx;have:=h y hy;omega
 .simp only[Ints,Ns,uy,qy];congr 1
  apply yM;intro x hx;have:=h x hx;simp only[Function.comp];congr 1
  omega
def Kw(l:List Int):Int:=if yD l then 0 else 1
def Kv(l:List Int):List Nat:=if yD l then dQ (uy l) else []
theorem ape{l:List Int}{i:Nat}(h:i<l.length):l.getD i 0∈l:=by simp[List.getD,h]
theorem ail(l:List Int)(hl:l.length<=1000000):PC Tryz.prog Lb [(.sl I64,Ints l)] [(.sl U16,Ns (Kv l)),(I64,.int (Kw l))]:=by
 apply agS rfl;simp only[Tz,aH,aB,aA,ay,aC,forall_const];refine VC.go_loop (fun i:Nat=> [.ls [],.int 0,.int i]) (fun i=>i<=l.length/\∀j,j<i->0<=l.getD j 0/\l.getD j 0<=2) (fun i=>l.length-i) 0 rfl ⟨bK _,fun j hj=>by omega⟩ fun i hi=>?_;simp only[aH,aB,aA,ay,aC,forall_const,aT,bO];refine ⟨fun hc=>?_,fun hc=>?_⟩
 .rw[Iu _ _ (by omega)];simp only[bU];refine ⟨by omega,by omega,fun hbad=>?_,fun hgood=>⟨by omega,i+1,by simp,⟨by omega,fun j hj=>?_⟩,by omega⟩⟩
  .have hn:¬yD l:=fun h=>by have:=h _ (ape (l:=l) (i:=i) (by omega));omega
   rw[Kv,Kw,if_neg hn,if_neg hn];rfl
  .by_cases hji:j=i
   .subst hji;omega
   .exact hi.2 j (by omega)
 .have hm:yD l:=fun x hx=>by
   obtain ⟨j,hj,rfl⟩:=List.getElem_of_mem hx;have:=hi.2 j (by omega);simpa [List.getD,hj] using this
  obtain ⟨ho,he⟩:=anI hm;have hnl:(uy l).length=l.length:=by simp[uy]
  rw[Kv,Kw,if_pos hm,if_pos hm];generalize uy l=n at ho he hnl;have he2:List.map C.int l=List.map (fun n:Nat=>C.int (n:Int)) n:=by simpa [Ints,Ns] using he
  refine VC.go_loop (fun s:List Nat×Nat=> [Ns s.1,.int s.2]) (fun s=>s.2<=n.length/\s.1++dQ (n.drop s.2)=dQ n/\s.1.length<=s.2) (fun s=>n.length-s.2) ([],0) rfl ⟨bK _,rfl,aI _⟩ fun s hs=>?_;obtain ⟨out,at_⟩:=s;simp only[aH,aB,aA,ay,aC,forall_const,aT,bn,zy,bO,he2] at hs |-;refine ⟨fun hc=>?_,fun hc=>?_⟩
  .have hne:n.drop at_≠[]:=by
    intro h;have:=congrArg List.length h;simp at this;omega
   have hmp:=EA hne;rw[jV] at hmp;have e1:(List.map (fun n:Nat=>C.int (n:Int)) n|>.take n.length).drop at_=List.map (fun n:Nat=>C.int (n:Int)) (n.drop at_):=by
    rw[jB (by simp),List.map_drop]
   rw[e1];refine ⟨by omega,by omega,by omega,_,_,ajh (n.drop at_) hne (I4 ho _),by omega,?_⟩;simp only[bU];refine ⟨by omega,(out++ [jK (n.drop at_)],at_+fM (n.drop at_)),?_,⟨by simp only;omega,?_,by simp;omega⟩,by simp only;omega⟩
   .simp
   .simp only;have:=hs.2.1;rw[Ee hne,rC] at this;rw[<-this];simp
  .have:n.drop at_=[]:=AO (by omega);have h2:=hs.2.1;rw[this,Ez,jl] at h2;rw[h2]
theorem OQ(n:Nat)(h:n<4294967296):arith .shr .u64 (n:Int) 32=0:=by
 rw[pR];simp[IntKind.bits];omega
theorem mask32(n:Nat)(h:n<4294967296):arith .and .u64 (n:Int) 4294967295=n:=by
 rw[show (4294967295:Int)=((4294967295:Nat):Int) from rfl,zq rfl (by show _<2^64;omega) (by decide)];have:=Nat.and_two_pow_sub_one_eq_mod n 32;rw[show (4294967295:Nat)=2^32-1 from rfl,this];omega
theorem afC(n:Nat)(h:n<4294967296):PC Tryz.prog RJ [(U64,.int 1),(U64,.int n)] [(U64,.int 0),(U64,.int n)]:=by
 apply afr rfl;have a1:arith .shr .u64 1 32=0:=OQ 1 (by decide);have a2:arith .and .u64 1 4294967295=1:=mask32 1 (by decide);have a3:=OQ n h;have a4:=mask32 n h;have a5:arith .mul .u64 1 (n:Int)=n:=by simp only[arith,jD];omega
 have a6:arith .mul .u64 0 (n:Int)=0:=by simp only[arith,jD];omega
 have a7:arith .mul .u64 0 0=0:=rfl;have a8:arith .add .u64 0 0=0:=rfl;have a9:arith .shr .u64 0 32=0:=OQ 0 (by decide);have a10:arith .and .u64 0 4294967295=0:=mask32 0 (by decide);have a11:arith .mul .u64 1 0=0:=rfl;simp only[Rp,aH,aB,aA,ay,aC,forall_const,a1,a2,a3,a4,a5,a6,a7,a8,a9,a10,a11]
theorem agt(n:Nat)(h:n<4294967296):PC Tryz.prog Ta [(U64,.int 1),(U64,.int n)] [(U64,.int 0),(U64,.int n)]:=by
 apply afP rfl;simp only[RY,aH,aB,aA,ay,aC,forall_const];exact ⟨_,_,afC n h,rfl⟩
theorem aak{x:Nat}:∀ {l:List Nat},x∈l->∃m,m<l.length/\l.getD m 0=x/\∀j,j<m->l.getD j 0≠x
 | [],h=>by cases h
 |y::l,h=>by
  by_cases hy:y=x
  .exact ⟨0,by simp,hy,fun j hj=>by omega⟩
  .have hl:x∈l:=(iH.1 h).resolve_left (fun e=>hy e.symm);obtain ⟨m,h1,h2,h3⟩:=aak hl;refine ⟨m+1,by simp;omega,by simpa using h2,fun j hj=>?_⟩;cases j with
   |zero=>exact hy
   |succ j=>exact h3 j (by omega)
theorem agZ(l:List Nat)(x:Nat)(hl:l.length<=1000000):∃r:Int,PC Tryz.prog QH [(.sl I64,Ns l),(I64,.int x)] [(I64,.int r)]/\(0<=r↔x∈l):=by
 by_cases hx:x∈l
 .obtain ⟨m,f1,f2,f3⟩:=aak hx;refine ⟨(m:Nat),?_,by simp[hx]⟩;apply QC rfl;simp only[KA,aH,aB,aA,ay,aC,forall_const];refine VC.go_loop (fun i:Nat=> [.int 0,.int i]) (fun i=>i<=m) (fun i=>m-i) 0 rfl (bK _) fun i hi=>?_;simp only[aH,aB,aA,ay,aC,forall_const,aT,bO];refine ⟨fun hc=>?_,fun hc=>by omega⟩;rw[Ec _ _ (by omega),bU];refine ⟨by omega,by omega,fun heq=>?_,fun hne=>⟨by omega,i+1,by simp,?_,?_⟩⟩
  .have:i=m:=by
    by_cases him:i=m
    .exact him
    .exact absurd (show l.getD i 0=x by omega) (f3 i (by omega))
   rw[this]
  .by_cases him:i=m
   .subst him;omega
   .omega
  .by_cases him:i=m
   .subst him;omega
   .omega
 .refine ⟨-1,?_,by simp[hx]⟩;apply QC rfl;simp only[KA,aH,aB,aA,ay,aC,forall_const];refine VC.go_loop (fun i:Nat=> [.int 0,.int i]) (fun i=>i<=l.length) (fun i=>l.length-i) 0 rfl (bK _) fun i hi=>?_;simp only[aH,aB,aA,ay,aC,forall_const,aT,bO];refine ⟨fun hc=>?_,fun hc=>?_⟩
  .rw[Ec _ _ (by omega),bU];refine ⟨by omega,by omega,fun heq=>?_,fun hne=>⟨by omega,i+1,by simp,by omega,by omega⟩⟩;exact absurd (by have:=IK (l:=l) (i:=i) (by omega);rwa[show l.getD i 0=x by omega] at this) hx
  .trivial
theorem afB(l:List Nat)(x:Nat)(hl:l.length<=1000000):PC Tryz.prog Qy [(.sl I64,Ns l),(I64,.int x)] [(.bool,.bool (decide (x∈l)))]:=by
 apply ae3 rfl;simp only[Qv,aH,aB,aA,ay,aC,forall_const];obtain ⟨r,h1,h2⟩:=agZ l x hl;refine ⟨_,h1,?_⟩;rw[bU,show decide (0<=r)=decide (x∈l) by rw[Bool.eq_iff_iff,bR,bR];exact h2]
theorem Yj(x:C)(n k m:Nat)(z:C)(hk:k+m<=n):splice (List.replicate k x++List.replicate (n-k) z) k (List.replicate m x)=List.replicate (k+m) x++List.replicate (n-(k+m)) z:=by
 unfold splice;rw[List.take_append_of_le_length (by simp),jB (by simp),bg,mQ,mQ,mQ,
  jB (by rw[mQ];omega),wu,mQ,sV (by rw[mQ];omega),List.drop_replicate,
  show n-k-(k+m-k)=n-(k+m) by omega,fJ,<-dI,List.replicate_append_replicate]
theorem agq(x:Nat)(n:Nat)(hn:n<=100000):PC Tryz.prog QE [(.sl I64,Ns [x]),(I64,.int n)] [(.sl I64,Ns (List.replicate n x))]:=by
 apply ae6 rfl;simp only[QA,aH,aB,aA,ay,aC,forall_const,aT,bn,zy];have c1:IntKind.u64.wrap (((0+1:Nat):Nat):Int)=1:=rfl;have c2:IntKind.u64.wrap (n:Int)=n:=by rw[jD];omega
 have c3:IntKind.i64.wrap (n:Int)=n:=je (by omega);rw[c1,c2];refine ⟨fun h=>by omega,fun _=>⟨_,_,agt n (by omega),?_⟩⟩;simp only[bU,c3];refine ⟨fun h=>by omega,fun _=>⟨by omega,by omega,by omega,?_⟩⟩;have hr:Ns (List.replicate n x)= .ls (List.replicate n (C.int x)):=by simp[Ns]
 rw[hr];refine VC.go_loop (fun k:Nat=> [.int k,.ls (List.replicate k (C.int x)++List.replicate (n-k) (C.int 0))]) (fun k=>k<=n/\(1<=n->1<=k)) (fun k=>n-k) (min 1 n) ?_ ⟨by omega,by omega⟩ fun k hk=>?_
 .simp only[aB,aA,ay,aC,forall_const,bO,c3,Int.toNat_zero,pz,aT,bn,zy];have e1:min (((0+1:Nat):Nat):Int) (n:Int)=((min 1 n:Nat):Int):=by omega
  rw[e1];congr 2
  congr 1
  by_cases h0:n=0
  .subst h0;rfl
  .have e2:List.take n [C.int (x:Int)]=List.replicate 1 (C.int x):=by
    rw[jB (by simp;omega)];rfl
   have e3:min 1 n=1:=by omega
   have:=Yj (C.int x) n 0 1 (C.int 0) (by omega);rw[e2,e3];simpa using this
 .simp only[aH,aB,aA,ay,aC,forall_const,c3,bg,mQ,bO,Int.toNat_zero,pz];have t1:(0+((k:Int)-0)).toNat=k:=by omega
  have t2:((n:Int)-k).toNat=n-k:=by omega
  have e1:(List.replicate k (C.int x)++List.replicate (n-k) (C.int 0)).take k=List.replicate k (C.int (x:Int)):=by
   rw[List.take_append_of_le_length (by simp),jB (by simp)]
  rw[t1,t2,e1,mQ];refine ⟨fun hc=>?_,fun hc=>?_⟩
  .have e2:min (k:Int) ((n:Int)-k)=((min k (n-k):Nat):Int):=by omega
   rw[e2];refine ⟨by omega,by omega,by omega,by omega,by omega,by omega,k+min k (n-k),?_,⟨by omega,by omega⟩,by omega⟩;have:=Yj (C.int x) n k (min k (n-k)) (C.int 0) (by omega);rw[List.take_replicate,Nat.min_comm (n-k) k,this];simp
  .have:k=n:=by omega
   subst this;simp
theorem aps(c:Nat)(h:c<65536):(kS c).length<=8191:=by
 unfold kS;split
 .rw[mQ];omega
 .split<;>simp
theorem abZ(c k:Nat):c&&&2^k=0↔c.testBit k=false:=by
 constructor
 .intro h;have:=congrArg (fun n=>n.testBit k) h;simpa [Nat.testBit_and,Nat.testBit_two_pow_self] using this
 .intro h;apply Nat.eq_of_testBit_eq;intro i;rw[Nat.testBit_and,Nat.testBit_two_pow,Nat.zero_testBit];by_cases hi:k=i
  .subst hi;simp[h]
  .simp[hi]
theorem acG:∀c:Nat,c<65536->(arith .and .u16 (c:Int) 32768=0↔c<32768):=by
 intro c hc;rw[show (32768:Int)=((32768:Nat):Int) from rfl,zq rfl (by show _<2^16;omega) (by decide)];rw[show (32768:Nat)=2^15 from rfl];have h:=abZ c 15;rw[Nat.testBit_eq_decide_div_mod_eq,kP] at h;omega
theorem abe:∀c:Nat,c<65536->32768<=c->(arith .and .u16 (c:Int) 16384=0↔c<49152):=by
 intro c hc h32;rw[show (16384:Int)=((16384:Nat):Int) from rfl,zq rfl (by show _<2^16;omega) (by decide)];rw[show (16384:Nat)=2^14 from rfl];have h:=abZ c 14;rw[Nat.testBit_eq_decide_div_mod_eq,kP] at h;omega
theorem aqD(c:Nat)(hc:c<65536):IntKind.i64.wrap (arith .and .u16 (c:Int) 8191)=((c%8192:Nat):Int):=by
 rw[show (8191:Int)=((8191:Nat):Int) from rfl,zq rfl (by show _<2^16;omega) (by decide)];have:=Nat.and_two_pow_sub_one_eq_mod c 13;rw[show (8191:Nat)=2^13-1 from rfl,this,je (by omega)]
theorem aqU(c:Nat)(hc:c<32768):arith .and .i64 (IntKind.i64.wrap (arith .shr .u16 (c:Int) 13)) 3=((c/8192:Nat):Int):=by
 have e1:arith .shr .u16 (c:Int) 13=((c/8192:Nat):Int):=by
  rw[pR];simp[IntKind.bits]
 rw[e1,je (by omega),show (3:Int)=((3:Nat):Int) from rfl,YN (by show _<2^63;omega) (by decide)];have:=Nat.and_two_pow_sub_one_eq_mod (c/8192) 2;rw[show (3:Nat)=2^2-1 from rfl,this];omega
theorem aay(c w k:Nat)(hc:c<65536)(hw:1<=w/\w<=2)(hk:k<=16):arith .and .i64 (IntKind.i64.wrap (arith .shr .u16 (c:Int) (k:Int))) (arith .shl .i64 1 (w:Int)-1)=((c/2^k%2^w:Nat):Int):=by
 have e1:arith .shr .u16 (c:Int) (k:Int)=((c/2^k:Nat):Int):=by
  rw[pR,bO,Nat.min_eq_left (by simp only[IntKind.bits];omega)];simp
 have h1:c/2^k<=c:=Nat.div_le_self _ _;generalize c/2^k=q at e1 h1;have e2:arith .shl .i64 1 (w:Int)-1=((2^w-1:Nat):Int):=by
  rcases (show w=1\/w=2 by omega) with rfl|rfl<;>rfl
 rw[e1,je (by omega),e2,YN (by show _<2^63;omega) (by show _<2^63;rcases (show w=1\/w=2 by omega) with rfl|rfl<;>decide),Nat.and_two_pow_sub_one_eq_mod]
theorem ahd(c m:Nat)(hc:c<65536)(hm:m<=4000):PC Tryz.prog Uf [(U16,.int c),(I64,.int m)] [(.sl I64,Ns ((kS c).take m))]:=by
 apply agd rfl;simp only[SB,aH,aB,aA,ay,aC,forall_const];refine ⟨fun h=>?_,fun h=>?_⟩
 .have h2:c<32768:=(acG c hc).1 h;rw[aqD c hc,aqU c h2];have e1:min ((c%8192:Nat):Int) (m:Int)=((min (c%8192) m:Nat):Int):=by omega
  rw[e1];refine ⟨_,agq (c/8192) (min (c%8192) m) (by omega),?_⟩;rw[kS,if_pos h2,List.take_replicate,Nat.min_comm]
 .have h2:¬c<32768:=fun h'=>h ((acG c hc).2 h');by_cases h3:c<49152
  .have hz:=(abe c hc (by omega)).2 h3;rw[kS,if_neg h2,if_pos h3];refine VC.go_loop (fun i:Nat=> [Ns ((List.range i).map fun i=>c/2^(13-i)%2),.int i]) (fun i=>i<=min 14 m) (fun i=>14-i) 0 rfl (bK _) fun i hi=>?_;simp only[aH,aB,aA,ay,aC,forall_const,hz,not_true_eq_false,if_false,aT,C9,bn,zy,ne_eq];refine ⟨fun hc2=>?_,fun hc2=>?_⟩
   .have ek:(1:Int)*(14-1-(i:Int))=((13-i:Nat):Int):=by omega
    have ed:=aay c 1 (13-i) hc (by decide) (by omega);rw[ek];rw[show ((1:Nat):Int)=1 from rfl] at ed;refine ⟨by omega,by omega,by omega,by omega,by omega,by decide,by omega,by omega,i+1,?_,by omega,by omega⟩;rw[ed,List.range_succ,eB];simp
   .have:i=min 14 m:=by omega
    subst this;congr 3
    rw[<-List.map_take,List.take_range,Nat.min_comm]
  .have hz:¬arith .and .u16 (c:Int) 16384=0:=fun h'=>h3 ((abe c hc (by omega)).1 h');rw[kS,if_neg h2,if_neg h3];refine VC.go_loop (fun i:Nat=> [Ns ((List.range i).map fun i=>c/4^(6-i)%4),.int i]) (fun i=>i<=min 7 m) (fun i=>7-i) 0 rfl (bK _) fun i hi=>?_;simp only[aH,aB,aA,ay,aC,forall_const,hz,not_false_eq_true,if_true,aT,C9,bn,zy,ne_eq];refine ⟨fun hc2=>?_,fun hc2=>?_⟩
   .have ek:(2:Int)*(7-1-(i:Int))=((2*(6-i):Nat):Int):=by omega
    have ed:=aay c 2 (2*(6-i)) hc (by decide) (by omega);rw[ek];rw[show ((2:Nat):Int)=2 from rfl,Nat.pow_mul] at ed;refine ⟨by omega,by omega,by omega,by omega,by omega,by decide,by omega,by omega,i+1,?_,by omega,by omega⟩;rw[ed,List.range_succ,eB];simp
   .have:i=min 7 m:=by omega
    subst this;congr 3
    rw[<-List.map_take,List.take_range,Nat.min_comm]
def Ba(c:List Nat)(count:Int):Except Int (List Nat×Nat):=if count<0\/4000<count then .error 1 else rd c count.toNat
def rE:Except Int (List Nat×Nat)->Int| .ok _=>0| .error e=>e
def rL:Except Int (List Nat×Nat)->List Nat| .ok x=>x.1| .error _=> []
def rN:Except Int (List Nat×Nat)->Nat| .ok x=>x.2| .error _=>0
def join(out:List Nat)(k:Nat):Except Int (List Nat×Nat)->Except Int (List Nat×Nat)| .ok x=> .ok (out++x.1,k+x.2)| .error e=> .error e
def okC(c:List Nat):Prop:=c.length<=1000000/\∀x∈c,x<65536
theorem apc(r:Except Int (List Nat×Nat)):join [] 0 r=r:=by
 cases r with
 |ok x=>simp[join]
 |error e=>rfl
theorem rd_step(c:List Nat)(i n:Nat)(out:List Nat)(h:i<c.length)(hn:out.length<n)(h3:3∉(kS (c.getD i 0)).take (n-out.length)):
  join out i (rd (c.drop i) (n-out.length))=join (out++(kS (c.getD i 0)).take (n-out.length)) (i+1) (rd (c.drop (i+1)) (n-(out++(kS (c.getD i 0)).take (n-out.length)).length)):=by
 have e1:c.drop i=c.getD i 0::c.drop (i+1):=by
  rw[uP h];simp[List.getD,h]
 rw[e1,rd,if_neg (by omega),if_neg h3,bg,<-Nat.sub_sub];cases rd (c.drop (i+1)) (n-out.length-((kS (c.getD i 0)).take (n-out.length)).length) with
 |ok x=>simp[join];omega
 |error e=>rfl
theorem apV(c:List Nat)(i n:Nat)(out:List Nat)(h:i<c.length)(hn:out.length<n)(h3:3∈(kS (c.getD i 0)).take (n-out.length)):join out i (rd (c.drop i) (n-out.length))= .error 6:=by
 have e1:c.drop i=c.getD i 0::c.drop (i+1):=by
  rw[uP h];simp[List.getD,h]
 rw[e1,rd,if_neg (by omega),if_pos h3];rfl
theorem aoR(c:List Nat)(n:Nat)(out:List Nat)(hn:out.length<n):join out c.length (rd (c.drop c.length) (n-out.length))= .error 2:=by
 rw[List.drop_length,rd,if_neg (by omega)];rfl
theorem aji(c:List Nat)(count:Int)(hc:okC c):PC Tryz.prog WO [(.sl U16,Ns c),(I64,.int count)] [(.sl I64,Ns (rL (Ba c count))),(I64,.int (rN (Ba c count):Nat)),(I64,.int (rE (Ba c count)))]:=by
 apply ah0 rfl;simp only[UY,aH,aB,aA,ay,aC,forall_const];refine ⟨fun h=>?_,fun h=>?_⟩
 .rw[Ba,if_pos (by omega)];rfl
 .rw[Ba,if_neg (by omega)];obtain ⟨n,rfl⟩:∃n:Nat,count=n:=⟨count.toNat,by omega⟩;rw[bO];refine VC.go_loop (fun s:List Nat×Nat=> [.ls [],.int 0,.int 0,Ns s.1,.int s.2]) (fun s=>s.2<=c.length/\s.1.length<=n/\rd c n=join s.1 s.2 (rd (c.drop s.2) (n-s.1.length))) (fun s=>c.length-s.2) ([],0) rfl ⟨bK _,bK _,(apc _).symm⟩ fun s hs=>?_;obtain ⟨out,i⟩:=s;simp only at hs;obtain ⟨h1,h2,h3⟩:=hs;simp only[aH,aB,aA,ay,aC,forall_const,aT,bO];refine ⟨fun hlt=>⟨fun hz=>?_,fun hz=>?_⟩,fun hge=>?_⟩
  .have:i=c.length:=by omega
   subst this;rw[h3,aoR c n out (by omega)];rfl
  .have hx:=hc.2 _ (IK (l:=c) (i:=i) (by omega));have ht:=rd_step c i n out (by omega) (by omega);have hb:=apV c i n out (by omega) (by omega);have hcl:=hc.1;rw[Ec _ _ (by omega)];generalize c.getD i 0=x at hx ht hb;have e1:(n:Int)-(out.length:Int)=((n-out.length:Nat):Int):=by omega
   have hl:=aps x hx;have hl2:((kS x).take (n-out.length)).length<=n-out.length:=by rw[gD];omega
   rw[e1];refine ⟨by omega,by omega,by omega,_,ahd x (n-out.length) hx (by omega),_,afB _ 3 (by omega),fun h3'=>?_,fun h3'=>?_⟩
   .rw[h3,hb (by simpa using h3')];rfl
   .have arf:3∉(kS x).take (n-out.length):=by simpa using h3'
    simp only[gM,aT];refine ⟨by omega,by omega,(out++(kS x).take (n-out.length),i+1),?_,⟨by simp only;omega,by simp only[bg];omega,?_⟩,by simp only;omega⟩
    .simp[Ns]
    .rw[h3,ht arf]
  .have e:n-out.length=0:=by omega
   rw[h3,e,Plain.vw];simp[join,rL,rN,rE]
theorem anJ(l:List Nat)(h:mg l):yD (l.map fun n:Nat=>(n:Int))/\uy (l.map fun n:Nat=>(n:Int))=l:=by
 refine ⟨fun x hx=>?_,?_⟩
 .simp only[gK] at hx;obtain ⟨y,hy,rfl⟩:=hx;have:=h y hy;omega
 .simp[uy,Function.comp_def]
theorem Oc(l:List Nat)(h:mg l):(dQ l).length<=l.length:=by
 have:=aql _ l rfl h;omega
theorem ak2(l:List Nat)(h:mg l)(hl:l.length<=1000000):PC Tryz.prog Lb [(.sl I64,Ns l)] [(.sl U16,Ns (dQ l)),(I64,.int 0)]:=by
 obtain ⟨m1,m2⟩:=anJ l h;have hw:=ail (l.map fun n:Nat=>(n:Int)) (by simpa using hl);rw[Kv,Kw,if_pos m1,if_pos m1,m2] at hw;have e:Ints (l.map fun n:Nat=>(n:Int))=Ns l:=by simp[Ints,Ns,Function.comp_def]
 rwa[e] at hw
abbrev Ga:Sh:= .pair .bool (.pair .bool (.pair .bool (.pair I64 (.pair U16 (.pair U32 (.pair U32 (.pair (.sl U32) .unit)))))))
abbrev Bd(h:Hd):C:= .ls [.bool h.pad,.bool h.ext,.bool h.mark,.int h.typ,.int h.seq,.int h.time,.int h.aN,Ns h.bD]
theorem K7(h:Hd):PC Tryz.prog WC [(Ga,Bd h)] [(.bool,.bool (decide h.right))]:=by
 apply ahR rfl;simp only[UK,aH,aB,aA,ay,aC,forall_const,aT];congr 3
 by_cases hr:h.right
 .have:=hr;obtain ⟨h1,h2,h3⟩:=this;simp[hr,h1,show h.typ<=127 by omega,show (h.bD.length:Int)<=15 by omega]
 .simp only[hr,decide_false];unfold Hd.right at hr;by_cases h1:0<=h.typ<;>by_cases h2:h.typ<=127<;>simp[h1,h2]
  omega
theorem ajN(h:Hd):PC Tryz.prog XH [(Ga,Bd h)] [(I64,.int (if h.right then 12+4*(h.bD.length:Int) else 0))]:=by
 apply aiS rfl;simp only[VK,aH,aB,aA,ay,aC,forall_const,aT];refine ⟨_,K7 h,fun hr=>?_,fun hr=>?_⟩
 .simp only[iR,kP] at hr;rw[if_neg hr]
 .simp only[iR,bR] at hr;have:=hr;obtain ⟨h1,h2,h3⟩:=this;rw[if_pos hr];exact ⟨by omega,by omega,rfl⟩
theorem ak5(v:Nat)(hv:v<4294967296): [C.int (IntKind.u8.wrap (arith .shr .u32 v 24)),C.int (IntKind.u8.wrap (arith .shr .u32 v 16)),C.int (IntKind.u8.wrap (arith .shr .u32 v 8)),C.int (IntKind.u8.wrap v)]=ofBytes (bT 4 v):=by
 have e1:arith .shr .u32 (v:Int) 24=((v/2^24:Nat):Int):=by rw[pR];simp[IntKind.bits]
 have e2:arith .shr .u32 (v:Int) 16=((v/2^16:Nat):Int):=by rw[pR];simp[IntKind.bits]
 have e3:arith .shr .u32 (v:Int) 8=((v/2^8:Nat):Int):=by rw[pR];simp[IntKind.bits]
 rw[e1,e2,e3,qH,qH,qH,qH];simp[bT,ofBytes,Nat.div_div_eq_div_mul]
theorem Li(b:List UInt8)(v:Nat)(hv:v<4294967296)(hb:b.length<=1000000):PC Tryz.prog Xu [(aQ,B b),(U32,.int v)] [(aQ,B (b++bT 4 v))]:=by
 apply aiW rfl;simp only[Ld,aH,aB,aA,ay,aC,forall_const,ak5 v hv,wS,bE,oG];omega
theorem alM:∀n:Nat,n<16->∀p e:Bool,
  (if e=true then arith .or .u8 (if p=true then arith .or .u8 (IntKind.u8.wrap (arith .or .i64 128 n)) 32 else IntKind.u8.wrap (arith .or .i64 128 n)) 16
   else if p=true then arith .or .u8 (IntKind.u8.wrap (arith .or .i64 128 n)) 32 else IntKind.u8.wrap (arith .or .i64 128 n))=((UInt8.ofNat (128+32*p.toNat+16*e.toNat+n)).toNat:Int):=by decide+kernel
theorem akg:∀n:Nat,n<128->∀m:Bool,(if m=true then arith .or .u8 (IntKind.u8.wrap (n:Int)) 128 else IntKind.u8.wrap (n:Int))=((UInt8.ofNat (128*m.toNat+n)).toNat:Int):=by decide+kernel
theorem XY(l:List Nat)(i:Nat)(h:i<l.length):words (l.take (i+1))=words (l.take i)++bT 4 (l.getD i 0):=by
 rw[jm h];simp only[words,eB,Da];simp[List.getD,h]
theorem aaf{l:List Nat}{i:Nat}(h:i<l.length):l.getD i 0∈l:=by
 simp[List.getD,h]
def Di(h:Hd):List UInt8:=if h.right then h.bytes else []
def Dh(h:Hd):Int:=if h.right then 0 else 1
theorem ajc(h:Hd)(ho:h.ok):PC Tryz.prog WB [(Ga,Bd h)] [(aQ,B (Di h)),(I64,.int (Dh h))]:=by
 apply ahQ rfl;simp only[UJ,aH,aB,aA,ay,aC,forall_const,aT];refine ⟨_,K7 h,fun hr=>?_,fun hr=>?_⟩
 .simp only[iR,kP] at hr;rw[Di,Dh,if_neg hr,if_neg hr];rfl
 .simp only[iR,bR] at hr;have:=hr;obtain ⟨h1,h2,h3⟩:=this;obtain ⟨o1,o2,o3,o4⟩:=ho;obtain ⟨t,ht⟩:∃t:Nat,h.typ=t:=⟨h.typ.toNat,by omega⟩;have f1:=alM h.bD.length h3 h.pad h.ext;have f2:=akg t (by omega) h.mark;have f3:arith .shr .u16 (h.seq:Int) 8=((h.seq/2^8:Nat):Int):=by rw[pR];simp[IntKind.bits]
  have e4: [C.int ((UInt8.ofNat (128+32*h.pad.toNat+16*h.ext.toNat+h.bD.length)).toNat:Int),C.int ((UInt8.ofNat (128*h.mark.toNat+t)).toNat:Int),C.int ((UInt8.ofNat (h.seq/2^8)).toNat:Int),C.int ((UInt8.ofNat h.seq).toNat:Int)]=
    ofBytes (UInt8.ofNat h.first::UInt8.ofNat h.second::bT 2 h.seq):=by
   simp[ofBytes,bT,Hd.first,Hd.second,ht]
  rw[ht,f1,f2,f3,qH,qH,e4];have e0:List.replicate (Int.toNat 0) (C.int 0)=[]:=rfl;rw[e0,fJ,bE];refine ⟨by omega,by omega,by omega,by omega,by simp,_,Li _ _ o2 (by simp),_,Li _ _ o3 (by simp),?_⟩;refine VC.go_loop (fun i:Nat=> [B ((UInt8.ofNat h.first::UInt8.ofNat h.second::bT 2 h.seq)++bT 4 h.time++bT 4 h.aN++words (h.bD.take i)),.int i]) (fun i=>i<=h.bD.length) (fun i=>h.bD.length-i) 0 ?_ (bK _) fun i hi=>?_
  .simp only[aB,aA,ay,aC,forall_const];simp[words]
  .simp only[aH,aB,aA,ay,aC,forall_const,aT];have hwl:=GD (h.bD.take i);rw[gD] at hwl;refine ⟨fun hc=>⟨by omega,by omega,?_⟩,fun hc=>?_⟩
   .rw[bO,LD _ _ (by omega)];refine ⟨_,Li _ _ (o4 _ (aaf (by omega))) (by simp;omega),by omega,i+1,?_,by omega,by omega⟩;rw[XY _ _ (by omega)];simp
   .rw[jB (by omega),Di,Dh,if_pos hr,if_pos hr];simp[Hd.bytes]
theorem KR(b:List UInt8)(i:Nat)(hi:i+4<=b.length)(hb:b.length<=9223372036854775807):PC Tryz.prog Vl [(aQ,B b),(I64,.int i)] [(U32,.int (num b i 4))]:=by
 apply agN rfl;simp only[Tq,aH,aB,aA,ay,aC,forall_const];refine ⟨_,_,rP b i 4 hb,?_⟩;have e:kH b.length i 4=0:=by rw[vg];omega
 have hl:=oK b i 4;have e2:jT b i 4=num b i 4:=by rw[jT,if_pos e];rfl
 rw[bU,e2,Ej];congr 3
 omega
theorem bits:∀x:Nat,x<256->arith .shr .u8 x 6=((x/64:Nat):Int)/\arith .and .u8 x 15=((x%16:Nat):Int)/\(decide (arith .and .u8 x 32≠0))=decide (x/32%2=1)/\(decide (arith .and .u8 x 16≠0))=decide (x/16%2=1)/\
  (decide (arith .and .u8 x 128≠0))=decide (128<=x)/\arith .and .u8 x 127=((x%128:Nat):Int)/\arith .quo .u8 x 64=((x/64:Nat):Int)/\arith .rem .u8 x 16=((x%16:Nat):Int)/\arith .rem .u8 x 128=((x%128:Nat):Int)/\
  (decide (arith .rem .u8 (arith .quo .u8 x 32) 2=1))=decide (x/32%2=1)/\(decide (arith .rem .u8 (arith .quo .u8 x 16) 2=1))=decide (x/16%2=1):=by decide+kernel
theorem qE(b:List UInt8)(i:Nat):(((b.getD i 0).toNat:Nat):Int)=(at_ b i:Int):=rfl
theorem Cb{b:List UInt8}{e:Int}(h:lF b=e)(he:e≠0):Bd (Dj b)= .ls [.bool false,.bool false,.bool false,.int 0,.int 0,.int 0,.int 0,.ls []]/\hdN b=0:=by
 rw[Dj,hdN,if_neg (by rw[h];exact he),if_neg (by rw[h];exact he)];exact ⟨rfl,rfl⟩
theorem Zn(n:Nat)(h:n<65536):IntKind.i64.wrap (n:Int)=n:=je (by omega)
theorem apQ(b:List UInt8)(h:4<=b.length):arith .or .u16 (arith .shl .u16 (IntKind.u16.wrap (at_ b 2:Int)) 8) (IntKind.u16.wrap (at_ b 3:Int))=(num b 2 2:Int):=by
 have h2:=gq b 2;have h3:=gq b 3;have e1:IntKind.u16.wrap (at_ b 2:Int)=(at_ b 2:Int):=by rw[zH];omega
 have e2:IntKind.u16.wrap (at_ b 3:Int)=(at_ b 3:Int):=by rw[zH];omega
 have e3:arith .shl .u16 (at_ b 2:Int) 8=((at_ b 2*2^8:Nat):Int):=by
  rw[pU,zH];simp[IntKind.bits];omega
 rw[e1,e2,e3,wY rfl (by show _<2^16;omega) (by show _<2^16;omega),vG _ _ _ (by omega)];have e4:(b.drop 2).take 2=[b.getD 2 0,b.getD 3 0]:=by
  match b,h with
  |_::_::x::y::l,_=>rfl
 simp[num,e4,at_,be]
theorem ami(b:List UInt8)(i:Nat):((List.range (i+1)).map fun j=>num b (12+4*j) 4)=((List.range i).map fun j=>num b (12+4*j) 4)++ [num b (12+4*i) 4]:=by
 rw[List.range_succ,eB];rfl
theorem ajO(b:List UInt8)(hb:b.length<=140737488355328):PC Tryz.prog XI [(aQ,B b)] [(Ga,Bd (Dj b)),(I64,.int (hdN b)),(I64,.int (lF b))]:=by
 apply aiT rfl;have i0:Int.toNat 0=0:=rfl;have i1:Int.toNat 1=1:=rfl;have i2:Int.toNat 2=2:=rfl;have i3:Int.toNat 3=3:=rfl;obtain ⟨q1,q2,q3,q4,_,_,_⟩:=bits (at_ b 0) (gq b 0);obtain ⟨_,_,_,_,q5,q6,_⟩:=bits (at_ b 1) (gq b 1);have q7:=Zn (at_ b 0%16) (by omega);have q8:=Zn (at_ b 1%128) (by omega);simp only[VL,aH,aB,aA,ay,aC,forall_const,bE,lH,i0,qE,q1,q2,q7];refine ⟨fun hc=>?_,fun hc=>⟨by omega,fun hv=>?_,fun hv=>⟨by omega,by omega,by omega,fun hs=>?_,fun hs=>⟨by omega,by omega,by omega,by omega,by omega,by omega,?_⟩⟩⟩⟩
 .have e:lF b=2:=by unfold lF;rw[if_pos (by omega)]
  rw[(Cb e (by decide)).1,(Cb e (by decide)).2,e];rfl
 .have e:lF b=3:=by unfold lF;rw[if_neg (by omega),if_pos (by omega)]
  rw[(Cb e (by decide)).1,(Cb e (by decide)).2,e];rfl
 .have e:lF b=2:=by unfold lF;rw[if_neg (by omega),if_neg (by omega),if_pos (by omega)]
  rw[(Cb e (by decide)).1,(Cb e (by decide)).2,e];rfl
 .have e:lF b=0:=by rw[Iw];omega
  refine ⟨_,KR b 4 (by omega) (by omega),_,KR b 8 (by omega) (by omega),?_⟩;refine VC.go_loop (fun i:Nat=> [.int i,Ns ((List.range i).map fun j=>num b (12+4*j) 4)]) (fun i=>i<=at_ b 0%16) (fun i=>at_ b 0%16-i) 0 rfl (bK _) fun i hi=>?_;simp only[aH,aB,aA,ay,aC,forall_const,bE,lH,i0,i1,i2,i3,qE,q2,q7,q3,q4,q5,q6,q8,aT,C9];refine ⟨fun hc=>⟨by omega,by omega,?_⟩,fun hc=>?_⟩
  .have ei:(12:Int)+4*(i:Int)=((12+4*i:Nat):Int):=by omega
   rw[ei];refine ⟨_,KR b (12+4*i) (by omega) (by omega),by simp;omega,by omega,i+1,?_,by omega,by omega⟩;rw[ami,akp];simp
  .have hi2:i=at_ b 0%16:=by omega
   rw[apQ b (by omega),Dj,hdN,if_pos e,if_pos e,e,hi2];simp[Hd.of]
abbrev lS:Sh:= .pair Ga (.pair U16 (.pair aQ (.pair aQ (.pair I64 .unit))))
abbrev jY(k:Pk):C:= .ls [Bd k.hd,.int (k.aD:Int),B k.ext,B k.pay,.int (k.pad:Int)]
theorem Ll(b:List UInt8)(hb:b.length<=1000000):PC Tryz.prog XC [(aQ,B b)] [(I64,.int (gL b:Int)),(I64,.int (if gL b=0 then 5 else 0))]:=by
 apply aiO rfl;simp only[VG,aH,aB,aA,ay,aC,forall_const,bE];have hlt:=gq b (b.length-1);refine ⟨fun h0=>?_,fun h0=>?_⟩
 .have h0:b.length=0:=by omega
  unfold gL;rw[if_pos h0];rfl
 .have h0:¬b.length=0:=by omega
  have e1:((b.length:Int)-1).toNat=b.length-1:=by omega
  have e2:((ofBytes b).getD ((b.length:Int)-1).toNat default).toInt=(at_ b (b.length-1):Int):=by
   rw[e1,lH];rfl
  rw[e2];have e3:IntKind.i64.wrap (at_ b (b.length-1):Int)=(at_ b (b.length-1):Int):=by unfold IntKind.wrap;simp[IntKind.bits,IntKind.signed];omega
  rw[e3];unfold gL;rw[if_neg h0];refine ⟨by omega,by omega,by omega,fun h=>?_,fun h=>?_⟩
  .rw[if_pos (by omega)];rfl
  .rw[if_neg (by omega),if_neg (by omega)]
theorem Dm(b:List UInt8)(hb:b.length<=1000000):PC Tryz.prog Vh [(aQ,B b)] [(aQ,B b)]:=by
 apply agJ rfl;simp only[Tk,aH,aB,aA,ay,aC,forall_const,bE];refine ⟨fun h0=>?_,fun h0=>?_⟩
 .obtain rfl:b=[]:=jH (by omega);rfl
 .have:=uX [b] (by simp) (by simp;omega);simp only[eZ,jI,List.flatten_cons,List.flatten_nil,jl] at this;exact ⟨_,this,rfl⟩
theorem qh(n:Nat)(h:n<=1000000):arith .rem .i64 (n:Int) 4=((n%4:Nat):Int)/\arith .quo .i64 (n:Int) 4=((n/4:Nat):Int):=by
 constructor
 .show (n:Int).tmod ((4:Nat):Int)=_;rw[<-Int.ofNat_tmod]
 .show IntKind.i64.wrap ((n:Int).tdiv 4)=_;have:(n:Int).tdiv 4=((n/4:Nat):Int):=by
   show (n:Int).tdiv ((4:Nat):Int)=_;rw[<-Int.ofNat_tdiv]
  rw[this];unfold IntKind.wrap;simp[IntKind.bits,IntKind.signed];omega
theorem aib(k:Pk)(hb:k.ext.length<=1000000):PC Tryz.prog Vj [(lS,jY k)] [(.bool,.bool (decide k.fits))]:=by
 apply agL rfl;simp only[Tn,aH,aB,aA,ay,aC,forall_const,bE];obtain ⟨r1,r2⟩:=qh k.ext.length hb;rw[r1,r2];refine ⟨_,K7 k.hd,fun h=>?_,fun h=>⟨fun h2=>?_,fun h2=>⟨fun h3=>?_,fun h3=>?_⟩⟩⟩
 .congr 3
  symm
  rw[kP];rintro ⟨f1,f2,f3,f4,f5⟩;rcases h with (h|h)|h
  .simp[f1] at h
  .omega
  .omega
 .congr 3
  symm
  rw[kP];rintro ⟨f1,f2,f3,f4,f5⟩;obtain ⟨h2,h3⟩:=h2;obtain ⟨g1,g2⟩:=f4 h2;rw[g1,g2] at h3;simp at h3
 all_goals
  have hk:k.hd.right/\k.ext.length%4=0/\k.ext.length/4<=65535/\(k.hd.ext=false->k.aD=0/\k.ext=[]):=by
   obtain ⟨h1,h4⟩:=h;simp only[not_or,iR,kP,Decidable.not_not] at h1;refine ⟨h1.1,by omega,by omega,fun he=>?_⟩;rcases h2 with h2|h2
   .exact absurd he h2
   .exact ⟨by omega,jH (by omega)⟩
  obtain ⟨k1,k2,k3,k4⟩:=hk;have hf:k.fits↔(if k.hd.pad then 1<=k.pad/\k.pad<=255 else k.pad=0):=⟨fun hh=>hh.2.2.2.2,fun hh=>⟨k1,k2,k3,k4,hh⟩⟩;rw[h3] at hf;congr 3
  by_cases hq:k.fits
  .have:=hf.1 hq;simp only[if_true,rA,if_false] at this;rw[decide_eq_true hq];first
   |(rw[if_pos (by omega)];simp;omega)
   |(simp;omega)
  .have:=mt hf.2 hq;simp only[if_true,rA,if_false] at this;rw[decide_eq_false hq];first
   |(split<;>simp<;>omega)
   |(simp;omega)
theorem Va(k:Pk)(hr:k.hd.right)(hb:k.ext.length<=1000000)(hp:k.pay.length<=1000000)(hd:k.pad<=1000000):PC Tryz.prog Ww [(lS,jY k)] [(I64,.int (k.sum:Int))]:=by
 apply ahN rfl;simp only[UF,aH,aB,aA,ay,aC,forall_const,bE];have h1:=ajN k.hd;rw[if_pos hr] at h1;have h3:=hr.2.2;refine ⟨_,h1,?_⟩;simp only[bU];refine ⟨by omega,by omega,fun _=>by omega,fun _=>by omega,?_⟩;unfold Pk.sum;cases k.hd.ext<;>simp<;>omega
theorem Bf(k:Pk)(hb:k.ext.length<=1000000)(hp:k.pay.length<=1000000)(hd:k.pad<=1000000):PC Tryz.prog Ua [(lS,jY k)] [(.bool,.bool (decide k.right))]:=by
 apply af8 rfl;simp only[Sv,aH,aB,aA,ay,aC,forall_const,bE];refine ⟨_,aib k hb,?_⟩;by_cases hf:k.fits
 .refine ⟨_,fun _=>Va k hf.1 hb hp hd,?_⟩;unfold Pk.right;simp only[hf,bU,true_and,decide_true,if_true,iR];congr 3
  rw[Bool.eq_iff_iff,bR,bR];omega
 .refine ⟨.int 0,fun h=>by simp[hf] at h,?_⟩;unfold Pk.right;simp[hf]
theorem Mg(b:List UInt8)(n:Nat)(h1:1<=n)(h2:n<=255)(hb:b.length<=1000000):PC Tryz.prog Zy [(aQ,B b),(I64,.int (n:Int))] [(aQ,B (b++trail n)),(I64,.int 0)]:=by
 apply akk rfl;simp only[X4,aH,aB,aA,ay,aC,forall_const,bE];refine ⟨fun h=>by omega,fun _=>⟨by omega,by omega,by omega,by omega,by omega,by omega,by omega,?_⟩⟩;have e0:((b.length:Int)+n).toNat=b.length+n:=by omega
 have e1:((b.length:Int)+n-1).toNat=b.length+(n-1):=by omega
 have e2:IntKind.u8.wrap (n:Int)=((UInt8.ofNat n).toNat:Int):=by unfold IntKind.wrap;simp[IntKind.bits,IntKind.signed]
 have e3:List.take (b.length+n) (ofBytes b)=ofBytes b:=jB (by simp);rw[e0,e1,e2];simp only[Int.toNat_zero,pz,e3];congr 3
 unfold splice trail;rw[if_neg (by omega)];obtain ⟨m,rfl⟩:∃m,n=m+1:=⟨n-1,by omega⟩;simp only[Nat.add_sub_cancel,wS,List.take_zero,fJ,mQ,Nat.sub_zero,bE,jB (show (ofBytes b).length<=b.length+(m+1) by simp),iI,List.drop_replicate];rw[show b.length+(m+1)-b.length=m+1 by omega,List.set_append_right _ _ (by simp),bE,Nat.add_sub_cancel_left];rw[<-wS,<-wS];congr 1
 have e4:ofBytes (List.replicate m 0)=List.replicate m (C.int 0):=by simp[ofBytes]
 rw[e4,List.replicate_succ',List.set_append_right _ _ (by simp),mQ,Nat.sub_self];rfl
theorem be2(L:List UInt8)(i:Nat)(h:i+2<=L.length):num L i 2=at_ L i*256+at_ L (i+1):=by
 unfold num;have e:(L.drop i).take 2=[L.getD i 0,L.getD (i+1) 0]:=by
  rw[za (show i<L.length by omega),za (show i+1<L.length by omega),wz,wz,List.take_zero];simp[at_]
 rw[e];simp[be,at_]
theorem apx(L:List UInt8)(i:Nat)(h:i+2<=L.length):arith .or .i64 (arith .shl .i64 (IntKind.i64.wrap ((L.getD i 0).toNat:Int)) 8) (IntKind.i64.wrap ((L.getD (i+1) 0).toNat:Int))=(num L i 2:Int):=by
 have h1:=gq L i;have h2:=gq L (i+1);rw[be2 L i h];show arith .or .i64 (arith .shl .i64 (IntKind.i64.wrap (at_ L i:Int)) 8) (IntKind.i64.wrap (at_ L (i+1):Int))=_;have w:∀n:Nat,n<256->IntKind.i64.wrap (n:Int)=(n:Int):=fun n hn=>by unfold IntKind.wrap;simp[IntKind.bits,IntKind.signed];omega
 have w2:∀n:Nat,n<65536->IntKind.i64.wrap (n:Int)=(n:Int):=fun n hn=>by unfold IntKind.wrap;simp[IntKind.bits,IntKind.signed];omega
 rw[w _ h1,w _ h2,pU];have e1:(at_ L i:Int)*2^(min (8:Int).toNat IntKind.i64.bits)=((at_ L i*256:Nat):Int):=by simp[IntKind.bits]
 rw[e1,w2 _ (by omega),ZM (by simp[IntKind.bits];omega) (by simp[IntKind.bits];omega)];rw[show at_ L i*256=at_ L i*2^8 by rfl,vG _ 8 _ (by omega)]
theorem apw(L:List UInt8)(i:Nat)(h:i+2<=L.length):arith .or .u16 (arith .shl .u16 (IntKind.u16.wrap ((L.getD i 0).toNat:Int)) 8) (IntKind.u16.wrap ((L.getD (i+1) 0).toNat:Int))=(num L i 2:Int):=by
 have h1:=gq L i;have h2:=gq L (i+1);rw[be2 L i h];show arith .or .u16 (arith .shl .u16 (IntKind.u16.wrap (at_ L i:Int)) 8) (IntKind.u16.wrap (at_ L (i+1):Int))=_;have w2:∀n:Nat,n<65536->IntKind.u16.wrap (n:Int)=(n:Int):=fun n hn=>by unfold IntKind.wrap;simp[IntKind.bits,IntKind.signed];omega
 rw[w2 _ (by omega),w2 _ (by omega),pU];have e1:(at_ L i:Int)*2^(min (8:Int).toNat IntKind.u16.bits)=((at_ L i*256:Nat):Int):=by simp[IntKind.bits]
 rw[e1,w2 _ (by omega),wY rfl (by show _<2^16;omega) (by show _<2^16;omega)];rw[show at_ L i*256=at_ L i*2^8 by rfl,vG _ 8 _ (by omega)]
theorem Eb(b:List UInt8)(p i n:Nat):num (b.drop p) i n=num b (p+i) n:=by unfold num;rw[rC]
theorem BZ{b:List UInt8}{e:Int}(he:cZ b=e)(h:e≠0):jY (jR b)= .ls [.ls [.bool false,.bool false,.bool false,.int 0,.int 0,.int 0,.int 0,.ls []],.int 0,.ls [],.ls [],.int 0]/\Gi b=[]:=by
 unfold jR Gi;rw[he,if_neg h,if_neg h];exact ⟨rfl,rfl⟩
theorem IG{b:List UInt8}(he:cZ b=0):jY (jR b)= .ls [Bd (Hd.of b),.int ((if (Hd.of b).ext then num b (hdN b) 2 else 0:Nat):Int),B (if (Hd.of b).ext then (b.drop (hdN b+4)).take (4*num b (hdN b+2) 2) else []),B ((eY b).take ((eY b).length-gI b)),.int (gI b:Int)]/\Gi b=(eY b).drop ((eY b).length-gI b):=by
 unfold jR Gi;rw[if_pos he,if_pos he];exact ⟨rfl,rfl⟩
theorem aia(b:List UInt8)(hb:b.length<=1000000):PC Tryz.prog Vi [(aQ,B b)] [(lS,jY (jR b)),(aQ,B (Gi b)),(I64,.int (cZ b))]:=by
 apply agK rfl;simp only[Tm,aH,aB,aA,ay,aC,forall_const,bE];refine ⟨fun h=>?_,fun h=>?_⟩
 .have e:cZ b=4:=by unfold cZ;rw[if_pos (by omega)]
  obtain ⟨q1,q2⟩:=BZ e (by decide);rw[q1,q2,e];rfl
 .refine ⟨_,_,_,ajO b (by omega),fun he=>?_,fun he=>?_⟩
  .have he:lF b≠0:=he;have e:cZ b=lF b:=by unfold cZ;rw[if_neg (by omega),if_pos he]
   obtain ⟨q1,q2⟩:=BZ e he;rw[q1,q2,e];rfl
  .have he:lF b=0:=he;have hz:=Iw.1 he;have hN:hdN b=12+4*(at_ b 0%16):=by unfold hdN;rw[if_pos he]
   have hH:Dj b=Hd.of b:=by unfold Dj;rw[if_pos he]
   have h65:¬65535<b.length:=by omega
   have hE:cZ b=if (Hd.of b).ext=true/\(b.length<hdN b+4\/b.length<hdN b+4+4*num b (hdN b+2) 2) then 2 else if (Hd.of b).pad=true/\gL (eY b)=0 then 5 else 0:=by
    unfold cZ;rw[if_neg h65,if_neg (fun h=>h he)]
   rw[hH];simp only[bU,bO,wT,y9,eX,lH,bE,Int.toNat_zero,pz,show (1:Int).toNat=1 from rfl,show (2:Int).toNat=2 from rfl,show (3:Int).toNat=3 from rfl,show (4:Int).toNat=4 from rfl];have hn0:=Eb b (hdN b) 0 2;have hn2:=Eb b (hdN b) 2 2;have hdl:(b.drop (hdN b)).length=b.length-hdN b:=by simp
   have hd4:(b.drop (hdN b)).drop 4=b.drop (hdN b+4):=by rw[rC]
   generalize hL:b.drop (hdN b)=L at hn0 hn2 hdl hd4;refine ⟨by omega,by omega,by omega,fun hx=>⟨fun hs=>?_,fun hs=>?_⟩,fun hx=>?_⟩
   .have hx:(Hd.of b).ext=true:=hx;have e:cZ b=2:=by rw[hE,if_pos ⟨hx,by omega⟩]
    obtain ⟨q1,q2⟩:=BZ e (by decide);rw[q1,q2,e];rfl
   .have hx:(Hd.of b).ext=true:=hx;have hw:=apx L 2 (by omega);rw[hw];have hlt:=oK L 2 2;rw[hd4];generalize hM:b.drop (hdN b+4)=M;have hMl:M.length=b.length-(hdN b+4):=by rw[<-hM];simp
    generalize hwn:num L 2 2=wn at hn2 hlt;have e4:(4*(wn:Int)).toNat=4*wn:=by omega
    rw[e4];refine ⟨by omega,by omega,by omega,by omega,by omega,by omega,by omega,fun hs2=>?_,fun hs2=>?_⟩
    .have e:cZ b=2:=by rw[hE,if_pos ⟨hx,by omega⟩]
     obtain ⟨q1,q2⟩:=BZ e (by decide);rw[q1,q2,e];rfl
    .have hno:¬((Hd.of b).ext=true/\(b.length<hdN b+4\/b.length<hdN b+4+4*num b (hdN b+2) 2)):=fun hh=>by
      have:=hh.2;omega
     have hu:=apw L 0 (by omega);rw[hu,hn0,Nat.add_zero];have hT:eY b=M.drop (4*wn):=by unfold eY;rw[if_pos hx,hM,<-hn2]
     refine ⟨by omega,by omega,_,Dm _ (by simp;omega),by omega,by omega,by omega,?_⟩;generalize hTT:M.drop (4*wn)=T at hT;have Qd:T.length<=1000000:=by rw[<-hTT];simp;omega
     obtain ⟨t1,t2,_⟩:=Oq T;refine ⟨fun hp=>⟨_,_,Ll T Qd,fun hy=>?_,fun hy=>?_⟩,fun hp=>?_⟩
     .have hp:(Hd.of b).pad=true:=hp;have hy:(if gL T=0 then (5:Int) else 0)≠0:=hy;have ht:gL T=0:=by
       by_cases h0:gL T=0
       .exact h0
       .rw[if_neg h0] at hy;exact absurd rfl hy
      have e:cZ b=5:=by rw[hE,if_neg hno,if_pos ⟨hp,by rw[hT];exact ht⟩]
      obtain ⟨q1,q2⟩:=BZ e (by decide);rw[q1,q2,e];rfl
     .have hp:(Hd.of b).pad=true:=hp;have hy:(if gL T=0 then (5:Int) else 0)=0:=hy;have ht:gL T≠0:=by
       intro h0;rw[if_pos h0] at hy;cases hy
      have e:cZ b=0:=by rw[hE,if_neg hno,if_neg (fun hh=>ht (by rw[<-hT];exact hh.2))]
      have hpp:gI b=gL T:=by unfold gI;rw[if_pos hp,hT]
      obtain ⟨q1,q2⟩:=IG e;rw[hpp,hT] at q1 q2;rw[q1,q2,e,if_pos hx,if_pos hx];have e5:((T.length:Int)-(gL T:Int)).toNat=T.length-gL T:=by omega
      simp only[bU,e5];refine ⟨by omega,by omega,by omega,_,Dm _ (by simp;omega),by omega,by omega,by omega,?_⟩;rw[hM,<-hn2];rfl
     .have hp:(Hd.of b).pad=false:=hp;have e:cZ b=0:=by rw[hE,if_neg hno,if_neg (fun hh=>by rw[hp] at hh;cases hh.1)]
      have hpp:gI b=0:=by unfold gI;rw[if_neg (by rw[hp];decide)]
      obtain ⟨q1,q2⟩:=IG e;rw[hpp,hT] at q1 q2;rw[q1,q2,e,if_pos hx,if_pos hx];have e5:((T.length:Int)-0).toNat=T.length-0:=by omega
      simp only[bU,e5];refine ⟨by omega,by omega,by omega,_,Dm _ (by simp;omega),by omega,by omega,by omega,?_⟩;rw[hM,<-hn2];rfl
   .have hx:¬(Hd.of b).ext=true:=fun hh=>by
     have h3:(Hd.of b).ext=false:=hx;rw[h3] at hh;cases hh
    have hno:¬((Hd.of b).ext=true/\(b.length<hdN b+4\/b.length<hdN b+4+4*num b (hdN b+2) 2)):=fun hh=>hx hh.1;have hT:eY b=L:=by unfold eY;rw[if_neg hx,hL]
    clear hd4 hn0 hn2;revert hT hdl;generalize L=T;intro hdl hT;have Qd:T.length<=1000000:=by omega
    obtain ⟨t1,t2,_⟩:=Oq T;refine ⟨fun hp=>⟨_,_,Ll T Qd,fun hy=>?_,fun hy=>?_⟩,fun hp=>?_⟩
    .have hp:(Hd.of b).pad=true:=hp;have hy:(if gL T=0 then (5:Int) else 0)≠0:=hy;have ht:gL T=0:=by
      by_cases h0:gL T=0
      .exact h0
      .rw[if_neg h0] at hy;exact absurd rfl hy
     have e:cZ b=5:=by rw[hE,if_neg hno,if_pos ⟨hp,by rw[hT];exact ht⟩]
     obtain ⟨q1,q2⟩:=BZ e (by decide);rw[q1,q2,e];rfl
    .have hp:(Hd.of b).pad=true:=hp;have hy:(if gL T=0 then (5:Int) else 0)=0:=hy;have ht:gL T≠0:=by
      intro h0;rw[if_pos h0] at hy;cases hy
     have e:cZ b=0:=by rw[hE,if_neg hno,if_neg (fun hh=>ht (by rw[<-hT];exact hh.2))]
     have hpp:gI b=gL T:=by unfold gI;rw[if_pos hp,hT]
     obtain ⟨q1,q2⟩:=IG e;rw[hpp,hT] at q1 q2;rw[q1,q2,e,if_neg hx,if_neg hx];have e5:((T.length:Int)-(gL T:Int)).toNat=T.length-gL T:=by omega
     simp only[bU,e5];refine ⟨by omega,by omega,by omega,_,Dm _ (by simp;omega),by omega,by omega,by omega,?_⟩;rfl
    .have hp:(Hd.of b).pad=false:=hp;have e:cZ b=0:=by rw[hE,if_neg hno,if_neg (fun hh=>by rw[hp] at hh;cases hh.1)]
     have hpp:gI b=0:=by unfold gI;rw[if_neg (by rw[hp];decide)]
     obtain ⟨q1,q2⟩:=IG e;rw[hpp,hT] at q1 q2;rw[q1,q2,e,if_neg hx,if_neg hx];have e5:((T.length:Int)-0).toNat=T.length-0:=by omega
     simp only[bU,e5];refine ⟨by omega,by omega,by omega,_,Dm _ (by simp;omega),by omega,by omega,by omega,?_⟩;rfl
theorem Dn(b:List UInt8)(hb:b.length<=1000000):PC Tryz.prog Vk [(aQ,B b)] [(lS,jY (jR b)),(I64,.int (cZ b))]:=by
 apply agM rfl;simp only[Tp,aH,aB,aA,ay,aC,forall_const];exact ⟨_,_,_,aia b hb,rfl⟩
def sJ(k:Pk)(room:Int):Int:=if ¬k.right then 1 else if room<k.sum then 7 else 0
def FR(k:Pk)(room:Int):List UInt8:=if sJ k room=0 then k.bytes else []
theorem amj{k:Pk}{room:Int}:sJ k room=0↔k.right/\(k.sum:Int)<=room:=by
 unfold sJ;split
 .rename_i h;simp[h]
 .rename_i h;have h:k.right:=Decidable.not_not.1 h;split
  .simp;omega
  .simp[h];omega
theorem qU(k:IntKind)(n j:Nat)(hj:j<=k.bits):arith .shr k ((n:Nat):Int) ((j:Nat):Int)=((n/2^j:Nat):Int):=by
 rw[pR,bO,Nat.min_eq_left hj];simp
abbrev yH:Sh:= .pair I64 (.pair I64 (.pair I64 .unit))
abbrev wO(s:Sp):C:= .ls [.int (s.id:Int),.int (s.pos:Int),.int (s.size:Int)]
abbrev yX(l:List Sp):C:= .ls (l.map wO)
abbrev If1:Sh:= .bP 221 .unit
abbrev If2:Sh:= .bP 222 .unit
theorem two_bytes(kk:IntKind)(h8:8<=kk.bits)(v:Nat): [C.int (IntKind.u8.wrap (arith .shr kk (v:Int) 8)),C.int (IntKind.u8.wrap (v:Int))]=ofBytes (bT 2 v):=by
 have e:=qU kk v 8 h8;rw[show ((8:Nat):Int)=8 from rfl] at e;rw[e,qH,qH];simp[bT,ofBytes]
theorem ag4(k:Pk)(room:Int)(ho:k.ok)(hb:k.ext.length<=1000000)(hp:k.pay.length<=1000000)(hd:k.pad<=1000000):PC Tryz.prog T9 [(lS,jY k),(I64,.int room)] [(aQ,B (FR k room)),(I64,.int (sJ k room))]:=by
 apply af7 rfl;simp only[Sr,aH,aB,aA,ay,aC,forall_const,bE];refine ⟨_,Bf k hb hp hd,fun hr=>?_,fun hr=>?_⟩
 .have hr:¬k.right:=by simpa using hr
  have e:sJ k room=1:=by unfold sJ;rw[if_pos hr]
  unfold FR;rw[e];rfl
 .have hr:k.right:=by simpa using hr
  have hl:=GI k (trail k.pad) (M6 (by have:=hr.1.2.2.2.2;split at this<;>omega)).1;have hs:=hr.2;refine ⟨_,Va k hr.1.1 hb hp hd,fun h=>?_,fun h=>?_⟩
  .have h:room<(k.sum:Int):=h;have e:sJ k room=7:=by unfold sJ;rw[if_neg (fun hh=>hh hr),if_pos h]
   unfold FR;rw[e];rfl
  .have h:¬room<(k.sum:Int):=by simpa using h
   have e:sJ k room=0:=amj.2 ⟨hr,by omega⟩;have eb:FR k room=k.bytes:=if_pos e;have hw:=ajc k.hd ho.1;have Di:Di k.hd=k.hd.bytes:=if_pos hr.1.1;have Dh:Dh k.hd=0:=if_pos hr.1.1;rw[Di,Dh] at hw;rw[e,eb];refine ⟨_,_,hw,fun h2=>absurd rfl h2,fun _=>?_⟩;obtain ⟨_,rq⟩:=qh k.ext.length hb;rw[rq];have hab: [C.int (IntKind.u8.wrap (arith .shr .u16 (k.aD:Int) 8)),C.int (IntKind.u8.wrap (k.aD:Int)),C.int (IntKind.u8.wrap (arith .shr .i64 ((k.ext.length/4:Nat):Int) 8)),C.int (IntKind.u8.wrap ((k.ext.length/4:Nat):Int))]=ofBytes (bT 2 k.aD++bT 2 (k.ext.length/4)):=by
    rw[<-wS,<-two_bytes .u16 (by decide),<-two_bytes .i64 (by decide)];rfl
   rw[hab];have hlen:=hl;unfold xY at hlen;simp only[bg] at hlen;have htr:∀X:List UInt8,X++(k.pay++trail k.pad)=X++k.pay++trail k.pad:=fun X=>by rw[dI]
   have hby:k.bytes=k.hd.bytes++qo k++k.pay++trail k.pad:=by unfold Pk.bytes xY;simp only[dI]
   have qX:=hr.1.2.2.2.2;refine ⟨fun hx=>?_,fun hx=>?_⟩
   .have hex:qo k=bT 2 k.aD++(bT 2 (k.ext.length/4)++k.ext):=if_pos hx;have j1:=uX [k.hd.bytes,bT 2 k.aD++bT 2 (k.ext.length/4),k.ext] (by simp) (by rw[hex] at hlen;simp at hlen |-;omega);have j2:=uX [k.hd.bytes++qo k,k.pay] (by simp) (by simp;omega);have f1: [k.hd.bytes,bT 2 k.aD++bT 2 (k.ext.length/4),k.ext].flatten=k.hd.bytes++qo k:=by rw[hex];simp
    have f2: [k.hd.bytes++qo k,k.pay].flatten=k.hd.bytes++qo k++k.pay:=by simp
    rw[f1] at j1;rw[f2] at j2;refine ⟨_,j1,_,j2,fun hq=>?_,fun hq=>?_⟩
    .rw[if_pos hq] at qX;exact ⟨_,_,Mg _ k.pad qX.1 qX.2 (by simp;omega),by rw[hby]⟩
    .rw[if_neg (by rw[hq];decide)] at qX;rw[hby,qX];simp[trail]
   .have hex:qo k=[]:=if_neg (by rw[hx];decide);have j2:=uX [k.hd.bytes,k.pay] (by simp) (by simp;omega);have f2: [k.hd.bytes,k.pay].flatten=k.hd.bytes++qo k++k.pay:=by rw[hex];simp
    rw[f2] at j2;refine ⟨_,j2,fun hq=>?_,fun hq=>?_⟩
    .rw[if_pos hq] at qX;exact ⟨_,_,Mg _ k.pad qX.1 qX.2 (by simp;omega),by rw[hby]⟩
    .rw[if_neg (by rw[hq];decide)] at qX;rw[hby,qX];simp[trail]
end Go.Vc
