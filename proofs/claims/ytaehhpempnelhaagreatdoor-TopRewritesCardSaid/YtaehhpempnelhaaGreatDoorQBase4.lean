/-
  My own general texts, one behind the other: a generator of conditions over the model, with its proof, and plain lemmas. No condition on the program.
-/
import Derived.Test.YtaehhpempnelhaaGreatDoorQBase3
import Derived.LaidLaws
import Derived.Lay
import Derived.Lib.LaidU8
import Derived.Stop.Joined
import Derived.JoinedOf
namespace Go.Plain
theorem D6 (l:List El):eF l↔fQ (aK l)∧∀e∈l,e.data.length≤255:=by
 constructor
 ·intro h;refine ⟨rP h,fun e he=>?_⟩;obtain ⟨j,hj,rfl⟩:=List.getElem_of_mem he;have:=(h j hj).2.2.1;simpa [List.getD,hj] using this
 ·rintro ⟨h1,h2⟩ j hj;have hj2:j<(aK l).length:=by simpa [aK] using hj
  obtain ⟨a,b,c⟩:=h1 j hj2;have e:(aK l).getD j 0=(l.getD j El.zero).id:=by simp[aK,List.getD,hj]
  have t:(aK l).take j=aK (l.take j):=by simp[aK]
  rw[e] at a b c;rw[t] at c;refine ⟨a,b,?_,c⟩;have hm:l.getD j El.zero∈l:=by simp[List.getD,hj]
  exact h2 _ hm
theorem TR {p:Pl} (hp:bR p) {w:List El} (hw:eF w) (hi:fQ (aK (gY p w))):eF (gY p w):=by
 rw[D6];refine ⟨hi,fun e he=>?_⟩;have h1:=((D6 _).1 hp.2.2.2.2.1).2;have h2:=((D6 _).1 hp.2.2.2.2.2.1).2;have h3:=((D6 _).1 hw).2;unfold gY at he;rcases List.mem_append.1 he with he|he
 ·obtain ⟨x,hx,rfl⟩:=List.mem_map.1 he;rw[List.mem_filter] at hx;unfold iq;simp only;by_cases ho:x.id∈aK p.over
  ·obtain ⟨o,ho2,_,e2⟩:=JH x.data ho;rw[e2];exact h1 o ho2
  ·rw[EG _ ho];exact h3 x hx.1
 ·exact h2 e he
theorem aji {l:List Int} (h:fQ l):l.length≤255:=by
 obtain ⟨h1,h2⟩:=(mH l).1 h;have hD:((List.range 255).map fun n:Nat=>(n:Int)+1).Nodup:=by
  rw[List.Nodup,List.pairwise_map];exact (List.nodup_range (n:=255)).imp fun hab he=>hab (by omega)
 have h3:=EH h2 hD;rw[List.countP_eq_length.2 (fun x hx=>by
  have:=h1 x hx;simp only[decide_eq_true_eq,List.mem_map,List.mem_range];exact ⟨(x-1).toNat,by omega,by omega⟩)] at h3
 have h4:=List.length_filter_le (fun x=>decide (x∈l)) ((List.range 255).map fun n:Nat=>(n:Int)+1);rw[←h3] at h4;simpa using h4
theorem Fj {l:List El} (h:eF l):l.length≤255:=by
 have:=aji (rP h);simpa [aK] using this
theorem RV (l:List El):mI l<65536:=by unfold mI;split<;>(try split)<;>omega
theorem ah3 {p:Pl} (hn:dO p) {h:Hd} (ho:h.ok):(gK p h).ok:=by
 obtain ⟨n1,n2,n3,n4,n5,n6⟩:=hn;obtain ⟨o1,o2,o3,o4⟩:=ho;refine ⟨?_,?_,?_,o4⟩
 ·show (if p.sq then p.seq.toNat else h.seq)<_;split<;>omega
 ·show (if p.aY then p.time.toNat else h.time)<_;split<;>omega
 ·show (if p.ss then p.aH.toNat else h.aH)<_;split<;>omega
theorem ahI {p:Pl} (hn:dO p) {k:Pk} (ho:k.ok) (l:List El):(bJ p k l).ok:=by
 have h1:=ah3 hn ho.1;unfold bJ;split
 ·split
  ·refine ⟨?_,?_⟩
   ·obtain ⟨a,b,c,d⟩:=h1;exact ⟨a,b,c,d⟩
   ·show (if l=[] then 0 else mI l)<65536;have:=RV l;split<;>omega
  ·exact ⟨h1,ho.2⟩
 ·exact ⟨h1,ho.2⟩
theorem Jm {p:Pl} (hn:dO p) {k x:Pk} (ho:k.ok) (hx:behind p k=some x):x.right∧x.ok:=by
 obtain ⟨_,l,_,rfl,hr⟩:=tL hx;exact ⟨hr,ahI hn ho l⟩
theorem agD {p:Pl} (hn:dO p) (hk:fA p) {b:List UInt8} (hb:aZ b=0) {x:Pk} (hx:behind p (aL b)=some x):
  ∃t,zZ x.pad t∧wW p (aL b) b=dL x t∧b=dL (aL b) t∧(b=(aL b).bytes→wW p (aL b) b=x.bytes):=by
 obtain ⟨s1,s2,s3,s4⟩:=Pk.same b hb;obtain ⟨e1,e2⟩:=aiF (tL hx).1 hn hk s1 hx ((bS b).drop ((bS b).length-dB b));rw[←s4] at e1;refine ⟨_,by rw[e2];exact s3,e1,s4,fun h=>?_⟩;rw[e1];unfold Pk.bytes at h ⊢;have h2:=s4.symm.trans h;unfold dL at h2;have h3:=List.append_cancel_left (List.append_cancel_left (List.append_cancel_left h2));rw[h3,e2]
end Go.Plain
namespace Go.Plain
structure bI where
 f:Int
 p:Nat
 s:Nat
def bI.zero:bI:=⟨0,0,0⟩
def jE (l:List bI):Nat:=match l.getLast? with|some x=>x.p+x.s|none=>0
def eO (l:List bI) (f:Int) (n:Nat):List bI:=if n=0 then l else l++ [⟨f,jE l,n⟩]
def gX:Nat→List bI→List bI
 |0,l=>l
 |n+1,l=>eO (gX n l) 6 4
def gT:List bI:=eO (eO (eO (eO (eO [] 1 1) 2 1) 3 2) 4 4) 5 4
def mY (k:Pk) (l:List bI):List bI:=if k.hd.ext then eO (eO (eO l 7 2) 8 2) 9 k.ext.length else l
def ru (k:Pk) (l:List bI):List bI:=if k.hd.pad then eO (eO l 11 (k.pad-1)) 12 1 else l
def placesOf (k:Pk):List bI:=ru k (eO (mY k (gX k.hd.aI.length gT)) 10 k.pay.length)
def eG (l:List bI) (f:Int):Option bI:=l.find? (fun x=>decide (x.f=f))
theorem Ji (l:List bI) (f:Int) (n:Nat):jE (eO l f n)=jE l+n:=by
 unfold eO;split
 ·rename_i h;rw[h];rfl
 ·unfold jE;simp
theorem lV (l:List bI) (f g:Int) (n:Nat):eG (eO l f n) g=(eG l g).or (if f=g∧n≠0 then some ⟨f,jE l,n⟩ else none):=by
 unfold eO eG;by_cases h:n=0
 ·simp[h]
 ·rw[if_neg h,List.find?_append];congr 1
  by_cases hf:f=g<;>simp[hf,h]
theorem uh (l:List bI) (f:Int) (n:Nat):l.length≤(eO l f n).length∧(eO l f n).length≤l.length+1:=by
 unfold eO;split<;>simp
theorem Ed (n:Nat) (l:List bI):jE (gX n l)=jE l+4*n∧(gX n l).length≤l.length+n∧∀g:Int,g≠6→eG (gX n l) g=eG l g:=by
 induction n with
 |zero=>exact ⟨rfl,Nat.le_refl _,fun _ _=>rfl⟩
 |succ n ih=>
  obtain ⟨h1,h2,h3⟩:=ih;have:=uh (gX n l) 6 4;refine ⟨?_,?_,fun g hg=>?_⟩
  ·rw[gX,Ji,h1];omega
  ·rw[gX];omega
  ·rw[gX,lV,h3 g hg,if_neg (fun h=>hg h.1.symm),Option.or_none]
theorem afn (k:Pk):eG (placesOf k) 2=some ⟨2,1,1⟩∧eG (placesOf k) 3=some ⟨3,2,2⟩∧eG (placesOf k) 4=some ⟨4,4,4⟩∧eG (placesOf k) 5=some ⟨5,8,4⟩:=by
 have key:∀g:Int,∀x,eG gT g=some x→g≠6→eG (placesOf k) g=some x:=by
  intro g x hx hg;have h1:eG (gX k.hd.aI.length gT) g=some x:=by rw[(Ed _ _).2.2 g hg,hx]
  have h2:eG (mY k (gX k.hd.aI.length gT)) g=some x:=by
   unfold mY;split
   ·rw[lV,lV,lV,h1];rfl
   ·exact h1
  unfold placesOf ru;split
  ·rw[lV,lV,lV,h2];rfl
  ·rw[lV,h2];rfl
 exact ⟨key 2 _ rfl (by decide),key 3 _ rfl (by decide),key 4 _ rfl (by decide),key 5 _ rfl (by decide)⟩
theorem VU (k:Pk):eG (placesOf k) 9=if k.hd.ext=true∧k.ext.length≠0 then some ⟨9,12+4*k.hd.aI.length+4,k.ext.length⟩ else none:=by
 obtain ⟨h1,_,h3⟩:=Ed k.hd.aI.length gT;have h3:=h3 9 (by decide);have e5:jE gT=12:=rfl;have n5:eG gT 9=none:=rfl;have hx:eG (mY k (gX k.hd.aI.length gT)) 9=if k.hd.ext=true∧k.ext.length≠0 then some ⟨9,12+4*k.hd.aI.length+4,k.ext.length⟩ else none:=by
  unfold mY;by_cases he:k.hd.ext=true
  ·rw[if_pos he,lV,lV,lV,h3,n5];simp[he,Ji,h1,e5]
  ·rw[if_neg he,h3,n5,if_neg (fun h=>he h.1)]
 unfold placesOf ru;split
 ·rw[lV,lV,lV,hx];simp
 ·rw[lV,hx];simp
theorem vL (k:Pk):(placesOf k).length≤20+k.hd.aI.length:=by
 obtain ⟨_,h2,_⟩:=Ed k.hd.aI.length gT;have e5:gT.length=5:=rfl;rw[e5] at h2;have hx:(mY k (gX k.hd.aI.length gT)).length≤8+k.hd.aI.length:=by
  unfold mY;split
  ·have a:=uh (gX k.hd.aI.length gT) 7 2;have b:=uh (eO (gX k.hd.aI.length gT) 7 2) 8 2;have c:=uh (eO (eO (gX k.hd.aI.length gT) 7 2) 8 2) 9 k.ext.length;omega
  ·omega
 unfold placesOf ru;have d:=uh (mY k (gX k.hd.aI.length gT)) 10 k.pay.length;split
 ·have a:=uh (eO (mY k (gX k.hd.aI.length gT)) 10 k.pay.length) 11 (k.pad-1);have b:=uh (eO (eO (mY k (gX k.hd.aI.length gT)) 10 k.pay.length) 11 (k.pad-1)) 12 1;omega
 ·omega
end Go.Plain
namespace Go.Plain
theorem Vy {b a:List UInt8} {k:Nat} (y:UInt8) (h:k+a.length<b.length):(putAt b k a).set (k+a.length) y=putAt b k (a++ [y]):=by
 rw[vU _ _ _ (by rw[qx _ _ _ (by omega)];exact h)];have h1:(b.take k).length=k:=by rw[List.length_take];omega
 unfold putAt;have e1:List.take (k+a.length) (b.take k++(a++b.drop (k+a.length)))=b.take k++a:=by
  rw[←List.append_assoc,List.take_left' (by rw[List.length_append,h1])]
 have e2:List.drop (k+a.length+ [y].length) (b.take k++(a++b.drop (k+a.length)))=b.drop (k+(a++ [y]).length):=by
  rw[←List.append_assoc,←List.drop_drop,List.drop_left' (by rw[List.length_append,h1]),List.drop_drop,List.length_append,Nat.add_assoc]
 rw[e1,e2];simp
theorem Vz {b:List UInt8} {k:Nat} (h:k≤b.length):putAt b k []=b:=by
 unfold putAt;simp
theorem af5 {p:Pl} {k:Pk} (ha:¬dJ p) (hs:(spots k.ak k.ext).2=0) {w:List El} (hw:w=iC k.ak k.ext) (hm:iB p w):
  (gY p w).length=(spots k.ak k.ext).1.length∧∀i,i<(spots k.ak k.ext).1.length→((gY p w).getD i El.zero).data.length=((spots k.ak k.ext).1.getD i Sp.zero).size:=by
 obtain ⟨m1,m2,m3⟩:=hm;have hdr:p.drops=[]:=by
  cases hd:p.drops with
  |nil=>rfl
  |cons a b=>exact absurd (Or.inl (by rw[hd];simp)) ha
 subst hw;rw[I8 ha];unfold iC at*;refine ⟨by simp,fun i hi=>?_⟩;have hmem:(spots k.ak k.ext).1[i]∈(spots k.ak k.ext).1:=List.getElem_mem hi;have h2:=m2 (dQ k.ext (spots k.ak k.ext).1[i]) (List.mem_map.2 ⟨_,hmem,rfl⟩) (by rw[hdr];simp);have hz:=(jS k.ak k.ext).1 _ hmem;have hdl:(dQ k.ext (spots k.ak k.ext).1[i]).data.length=(spots k.ak k.ext).1[i].size:=by unfold dQ;simp;omega
 have e1:(((spots k.ak k.ext).1.map (dQ k.ext)).map (iq p)).getD i El.zero=iq p (dQ k.ext (spots k.ak k.ext).1[i]):=by simp[List.getD,hi]
 have e2:(spots k.ak k.ext).1.getD i Sp.zero=(spots k.ak k.ext).1[i]:=by simp[List.getD,hi]
 rw[e1,e2,←hdl];exact h2
theorem ahV {p:Pl} (hp:bR p) {m:Mp} (hm:m∈p.maps):newId p m.fr=m.to:=by
 have hn:=((mH _).1 hp.2.1).2;obtain ⟨m',h1,h2,h3⟩:=Cn (p:=p) (x:=m.fr) (List.mem_map.2 ⟨m,hm,rfl⟩);rw[h3];have:=filter_map_one (f:=fun y:Mp=>y.fr) hn hm;have h4:m'∈p.maps.filter (fun y=>decide (y.fr=m.fr)):=List.mem_filter.2 ⟨h1,by simpa using h2⟩;rw[this] at h4;rw[List.mem_singleton.1 h4]
theorem akE {p:Pl} {k:Pk} (hp:bR p) (ha:¬dJ p) (hn:k.ak=48862) (hs:(spots k.ak k.ext).2=0) {w:List El} (hw:w=iC k.ak k.ext) (hm:iB p w):
  (∀e∈gY p w,e.id≤14)↔∀m∈p.maps,m.to≤14:=by
 obtain ⟨m1,m2,m3⟩:=hm;rw[I8 ha];constructor
 ·intro h m hm;obtain ⟨e,he,hid⟩:=List.mem_map.1 (m1.1 m.fr (List.mem_map.2 ⟨m,hm,rfl⟩));have:=h (iq p e) (List.mem_map.2 ⟨e,he,rfl⟩);have e1:(iq p e).id=newId p e.id:=rfl;rw[e1,hid,ahV hp hm] at this;exact this
 ·intro h e he;obtain ⟨e0,h0,rfl⟩:=List.mem_map.1 he;show newId p e0.id≤14;refine UU h ?_;obtain ⟨aj,el,r,hq,hb,hsp,hf,hst⟩:=AV hs;obtain ⟨d1,d2⟩:=Em (q:=k.ak) hb hsp hf;have hnar:bO k=aj:=Ee hq;have:aj=true:=by rw[←hnar];unfold bO;simp[hn]
  subst this;rw[hw,d1] at h0;obtain ⟨x,hx,rfl⟩:=List.mem_map.1 h0;have:=hf x hx;unfold fM at this;simp at this;exact this.2.1
def FE (aj:Bool) (z:List (Sp×El)) (x:List UInt8):List UInt8:=z.foldl (fun x z=>pE aj x z.1 z.2) x
theorem Si (aj:Bool) (sp:List Sp) (l:List El) (x:List UInt8) (i:Nat) (h1:i<sp.length) (h2:i<l.length):
  FE aj ((sp.zip l).take (i+1)) x=pE aj (FE aj ((sp.zip l).take i) x) (sp.getD i Sp.zero) (l.getD i El.zero):=by
 unfold FE;have hz:i<(sp.zip l).length:=by rw[List.length_zip];omega
 rw[List.take_succ_eq_append_getElem hz,List.foldl_append];simp[List.getD,h1,h2]
theorem TI {aj:Bool} {x:List UInt8} {s:Sp} {e:El} (h1:ahead aj≤s.pos) (h2:s.pos+s.size≤x.length) (h3:e.data.length=s.size):(pE aj x s e).length=x.length:=by
 have ha:1≤ahead aj:=by cases aj<;>simp[ahead]
 unfold pE;have h4:(putAt x (s.pos-ahead aj) [zA aj e.id s.size]).length=x.length:=qx _ _ _ (by simp;omega);rw[qx _ _ _ (by rw[h4];omega),h4]
end Go.Plain
set_option maxRecDepth 100000
namespace Go.Plain
def bW:List UInt8:=[144,96,0,1,0,0,0,2,0,0,0,3,190,222,0,1,48,7,0,0,9]
def oW:List UInt8:=[144,96,0,5,0,0,0,2,0,0,0,3,190,222,0,1,64,120,0,0,9]
def pW:Pl:= {Pl.zero with sq:=true,seq:=5,maps:=[⟨3,4⟩],over:=[⟨3,[120]⟩]}
def kW:Pk:=⟨⟨false,true,false,96,1,2,3,[]⟩,48862,[48,7,0,0],[9],0⟩
def xW:Pk:=⟨⟨false,true,false,96,5,2,3,[]⟩,48862,[64,120,0,0],[9],0⟩
theorem Gc:aZ bW=0∧aL bW=kW:=by decide+kernel
theorem Lg:aZ oW=0∧aL oW=xW:=by decide+kernel
theorem ak0:behind pW kW=some xW:=by decide+kernel
theorem keepW:fA pW∧kW.right:=by decide+kernel
theorem aki:wW pW kW bW=oW:=by decide+kernel
theorem elW:iC 48862 [64,120,0,0]=[⟨4,[120]⟩]∧(spots 48862 [64,120,0,0]).2=0:=by decide+kernel
end Go.Plain
namespace Go.Vc
open Go.ChangeShapes Go.WideShapes Go.ChangeAt Go.RowKit
theorem ajd {H:Type} {enc:TypeId×Value→H} {C:Checked} {os:Os} {f:FuncId} {fn:Func} {s:ChangeSpec} {conds:List PathCond} {laid:List (String×DataW Unit)} (hlt:f<1000000) (aN:∀W:World,laidMetH C.prog laid W→KW C.prog W) (own:ownKnob C.prog.godebug=none) (laidOut:laidOutB C.prog=true)
  (started:os.Started) (noInit:C.prog.inits.idxOf? f=none) (hfn:C.prog.funcs[f]?=some fn)
  (witness:∃(w:World) (tape:Tape) (i:Input),w.os=os∧(w.forCall tape i).Shaped C.prog∧i.vars=[]∧Input.okWide C.prog (w.forCall tape i) .any w.heap.size f i∧
   ((s.pre enc C.prog fn conds false (w.forCall tape i).memory i.args∧laidMetH C.prog laid (w.forCall tape i).memory)∧sizedMet enc C.prog fn (OpenSpec.ofChange s) false (w.forCall tape i).memory i.args)∧({}:Assume).holds C.prog (lone (Frame.enter C.prog f i.args .normal) [] (w.forCall tape i)))
  {bM:List Sh} (hgood:zI C.prog 6 fn.params.toList bM=true) (hread:(fn.params.toList.all fun t=>C.prog.readableRec t&&decide (t<C.prog.types.size))=true)
  {tb:TypeId} (hres:fn.resultTypes= #[tb]) (K8:C.prog.underlying tb=some .bool) (hvars:s.vars=[])
  (hspec:∀(ds:List (DataW H)),ds.length=fn.params.size→s.fn H ds= {results:=[.lit (.bool true)],args:=ds})
  (hpc:∀cs,CW bM cs→PC C.prog f (bM.zip cs) [(.bool,.bool true)]):
  ReturnsInHanded {} C os f .any (fun w args=>(s.pre enc C.prog fn conds false w args∧laidMetH C.prog laid w)∧sizedMet enc C.prog fn (OpenSpec.ofChange s) false w args) (s.post enc C.prog fn false true false false):=by
 refine returnsInHanded_of_change_and (X:=fun w _=>laidMetH C.prog laid w) (fun _ _ _ hh h=>h.of_heap hh) own started noInit hfn witness ?_;intro W base args ds gs before hval hW hcnd _ hL _;have hW':=hW;obtain ⟨p,q,hA,hV,rfl,hfz,hnd⟩:=hW;rw[hvars] at hV;obtain ⟨rfl,rfl⟩:=trodVars_none hV;obtain ⟨cs,r1,r2⟩:=JY hgood (fun j t v ht hv=>hval j t v (by simpa using ht) (by simpa using hv)) hA;have hlen:=Ig hA;have hcall:=((hpc cs r2).kK hlt).2 W _ args.toList (aN W hL) r1;simp only[Array.toArray_toList] at hcall;refine hcall.mono fun e W' ⟨v,he,hv,bH⟩=>?_;subst he;obtain ⟨vs,hvs,hv⟩:=hv;obtain ⟨u,r,rfl,⟨us,hu,rfl⟩,hr⟩:=hvs;simp only[bZ] at hr;subst hr;simp only[Rd] at hu;subst hu;simp[Sh.mk,Sh.isAgg] at hv;subst hv;have hsp:=hspec (ds++ []) (by simpa using hlen);refine ⟨_,rfl,ds,[],_,[],p,[],hW',?_,?_,?_,bH.frame _,fun h=>by cases h⟩
 ·rw[hsp,hres];exact trodAll_mk1 (shut_bool K8 _)
 ·rw[hsp];simp only[List.append_nil];exact Jp laidOut bH hread hA
 ·rw[hsp,hvars];rfl
end Go.Vc
namespace Go.Vc
open Go.ChangeShapes Go.WideShapes Go.ChangeAt Go.RowKit
theorem ag4 {P:Program} {f:FuncId} {fn:Func} {s:ChangeSpec} {c:OpenClaim} (k1:c.wf (OpenSpec.ofChange s)=true) (k2:laidOutB P=true) (k3:mapsRowed P=true) (k4:fn.params.all (P.readableRec ·)=true) (k5:namedTie P c.named s.vars=true)
  (k6:((c.stops==[])&&(P.stops==[])&&(c.knobs==[])&&(P.stopKnobs==[]))=true) (k10:(c.inPlace==P.inPlace f)=true) (k11:(c.unfollowed==P.unfollowed f)=true) (k12:(c.recurses==P.recurses f)=true) (k13:(c.named==P.varsNamed f)=true)
  (k14:((c.maps==(fn.params.toList++s.plain.varTypes P).any (P.mapsRec ·))&&(c.ifaces==(fn.params.toList++s.plain.varTypes P).any (P.ifacesRec ·))&&(c.mapsOut==P.mapsAmong fn.resultTypes.toList))=true)
  (k17:((c.loops==(fn.params.toList++s.plain.varTypes P).any (P.loopsFrom ·))&&(c.wideKeys==(fn.params.toList++s.plain.varTypes P++fn.resultTypes.toList).any (P.wideKeysFrom ·)))=true)
  (k18:(s.vars.all (P.varReadable ·)&&fn.resultTypes.all (fun t=>P.readableRec t&&decide (t<P.types.size))&&(c.ifacesOut==fn.resultTypes.toList.any (P.ifacesRec ·))&&(c.loopsOut==fn.resultTypes.toList.any (P.loopsFrom ·)))=true)
  (k22:(c.plainKeys==P.plainKeys)=true) (k23:(c.shortTexts.isNone&&P.stopsHeard)=true) (k24:P.mayEnter=true) (k24b:(c.lifted==P.liftsFinal)=true) (k24c:(P.make==some c.make)=true)
  (k25:((c.kinds==(if c.domain.isEmpty then [] else fn.params.toList.map fun t=>match P.underlying t with|some (.int k)=>some k|_=>none))&&(c.pinned==c.pinnedBy))=true)
  (k27:((c.veiled==(fn.params.toList++s.plain.varTypes P++fn.resultTypes.toList).any (P.veiledRec ·))&&c.veiledFits P fn.params.toList (fn.params.toList++s.plain.varTypes P++fn.resultTypes.toList))=true):joinedFacts P f fn s c=true:=by
 simp only[Bool.and_eq_true] at k6 k14 k17 k18 k23 k25 k27;simp only[joinedFacts,Bool.and_eq_true];obtain ⟨⟨⟨k6,k7⟩,k8⟩,k9⟩:=k6;obtain ⟨⟨k14,k15⟩,k16⟩:=k14;obtain ⟨k17,k17b⟩:=k17;obtain ⟨⟨⟨k18,k19⟩,k20⟩,k21⟩:=k18;obtain ⟨k23,k23b⟩:=k23;obtain ⟨k25,k26⟩:=k25;obtain ⟨k27,k28⟩:=k27;exact ⟨⟨⟨⟨⟨⟨⟨⟨⟨⟨⟨⟨⟨⟨⟨⟨⟨⟨⟨⟨⟨⟨⟨⟨⟨⟨⟨⟨⟨⟨⟨k1,k2⟩,k3⟩,k4⟩,k5⟩,k6⟩,k7⟩,k8⟩,k9⟩,k10⟩,k11⟩,k12⟩,k13⟩,k14⟩,k15⟩,k16⟩,k17⟩,k17b⟩,k18⟩,k19⟩,k20⟩,k21⟩,k22⟩,k23⟩,k23b⟩,k24⟩,k24b⟩,k24c⟩,k25⟩,k26⟩,k27⟩,k28⟩
end Go.Vc
