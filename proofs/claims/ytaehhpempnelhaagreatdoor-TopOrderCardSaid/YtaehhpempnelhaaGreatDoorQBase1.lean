/-
  My own general texts, one behind the other: a generator of conditions over the model, with its proof, and plain lemmas. No condition on the program.
-/
import Derived.Lib.MapLaws
import Derived.WalkKit
import Derived.Deep.LoopGhost
import Derived.Orders
import Derived.OwnWalkIn
import Derived.Maps.OwnIn
import Derived.RangeFuncOwn

/-
  Plain: tokens.
-/
namespace Go.Plain
/-- Signs of a token. -/
def tsgn (x:UInt8):Bool:=decide (97≤x.toNat∧x.toNat≤122∨65≤x.toNat∧x.toNat≤90∨48≤x.toNat∧x.toNat≤57∨x.toNat=45∨x.toNat=95)
def tokL (s:List UInt8):Bool:=decide (1≤s.length∧s.length≤16)&&s.all tsgn
end Go.Plain

namespace Go.Plain
open Go.Lib (decodeL decodeN)
/-- The bytes of the rune at the head, how many. -/
def rwid (l:List UInt8):Nat:=(decodeL l).2
def stray (l:List UInt8):Bool:=decide ((decodeL l).1=65533)&&decide ((decodeL l).2=1)
theorem rwid_pos (l:List UInt8):1≤rwid l:=Lib.decodeL_width l
theorem rwid_le {l:List UInt8} (h:l≠[]):rwid l≤l.length:=Lib.decodeL_le l h
/-- What a list of bytes decodes to, one of two: an ASCII byte; a stray one; two bytes or more from 128 on, which decode so whatever follows. -/
inductive Dec (l:List UInt8):Prop
 |ascii (x:UInt8) (t:List UInt8) (hl:l=x::t) (hx:x.toNat<128) (h:decodeL l=(x.toNat,1))
 |bad (x:UInt8) (t:List UInt8) (hl:l=x::t) (hx:128≤x.toNat) (h:decodeL l=(65533,1))
 |many (c t:List UInt8) (hl:l=c++t) (hc:∀x∈c,128≤x.toNat) (h2:2≤c.length) (hw:(decodeL l).2=c.length) (hr:128≤(decodeL l).1) (h:∀r,decodeL (c++r)=decodeL l)
theorem lead_of {l:List UInt8} (hne:l≠[]):∃x t,l=x::t:=by cases l with|nil=>exact absurd rfl hne|cons x t=>exact ⟨x,t,rfl⟩
theorem dec {l:List UInt8} (hne:l≠[]):Dec l:=by
 have hl:0<l.length:=List.length_pos_iff.2 hne
 have e:=Lib.decodeL_N l
 have k0:=(l.getD 0 0).toNat_lt
 have k1:=(l.getD 1 0).toNat_lt
 have k2:=(l.getD 2 0).toNat_lt
 have k3:=(l.getD 3 0).toNat_lt
 obtain ⟨x,t,hx⟩:=lead_of hne
 have h0:l.getD 0 0=x:=by rw[hx];rfl
 rcases Lib.decodeN_shape l.length (l.getD 0 0).toNat (l.getD 1 0).toNat (l.getD 2 0).toNat (l.getD 3 0).toNat with ⟨c,e'⟩|⟨c1,c2,c3,cv,e'⟩|⟨c1,c2,c3,c4,cv,cs,e'⟩|⟨c1,c2,c3,c4,c5,cv,cw,e'⟩|e'
 ·rw[e'] at e
  exact .ascii x t hx (by rw[←h0];exact c) (by rw[e,h0])
 ·have hw:(decodeL l).2=2:=by rw[e,e']
  have ht:l.take 2=[l.getD 0 0,l.getD 1 0]:=Lib.takeB l c2
  refine .many (l.take 2) (l.drop 2) (List.take_append_drop 2 l).symm ?_ ?_ ?_ ?_ ?_
  ·rw[ht];intro y hy;simp only[List.mem_cons,List.not_mem_nil,or_false] at hy;rcases hy with rfl|rfl<;>omega
  ·rw[ht];simp
  ·rw[ht,hw];rfl
  ·rw[e,e'];simp only;omega
  ·intro r
   rw[ht,e,e',Lib.decodeL_N]
   simp only[List.cons_append,List.nil_append,List.getD_cons_zero,List.getD_cons_succ,List.length_cons]
   unfold decodeN
   rw[if_neg (by omega),if_pos ⟨c1,by omega,c3⟩,if_pos cv]
 ·have hw:(decodeL l).2=3:=by rw[e,e']
  have ht:l.take 3=[l.getD 0 0,l.getD 1 0,l.getD 2 0]:=Lib.takeC l c2
  refine .many (l.take 3) (l.drop 3) (List.take_append_drop 3 l).symm ?_ ?_ ?_ ?_ ?_
  ·rw[ht];intro y hy;simp only[List.mem_cons,List.not_mem_nil,or_false] at hy;rcases hy with rfl|rfl|rfl<;>omega
  ·rw[ht];simp
  ·rw[ht,hw];rfl
  ·rw[e,e'];simp only;omega
  ·intro r
   rw[ht,e,e',Lib.decodeL_N]
   simp only[List.cons_append,List.nil_append,List.getD_cons_zero,List.getD_cons_succ,List.length_cons]
   unfold decodeN
   rw[if_neg (by omega),if_neg (by omega),if_pos ⟨c1,⟨by omega,c3⟩,by omega,c4⟩,if_pos ⟨cv,by omega⟩]
 ·have hw:(decodeL l).2=4:=by rw[e,e']
  have ht:l.take 4=[l.getD 0 0,l.getD 1 0,l.getD 2 0,l.getD 3 0]:=Lib.takeD l c2
  refine .many (l.take 4) (l.drop 4) (List.take_append_drop 4 l).symm ?_ ?_ ?_ ?_ ?_
  ·rw[ht];intro y hy;simp only[List.mem_cons,List.not_mem_nil,or_false] at hy;rcases hy with rfl|rfl|rfl|rfl<;>omega
  ·rw[ht];simp
  ·rw[ht,hw];rfl
  ·rw[e,e'];simp only;omega
  ·intro r
   rw[ht,e,e',Lib.decodeL_N]
   simp only[List.cons_append,List.nil_append,List.getD_cons_zero,List.getD_cons_succ,List.length_cons]
   unfold decodeN
   rw[if_neg (by omega),if_neg (by omega),if_neg (by omega),if_pos ⟨c1,⟨by omega,c3⟩,⟨by omega,c4⟩,by omega,c5⟩,if_pos ⟨cv,by omega⟩]
 ·by_cases hx2:x.toNat<128
  ·refine .ascii x t hx hx2 ?_
   rw[e,h0];simp[decodeN,hx2]
  ·exact .bad x t hx (by omega) (by rw[e,e'])
/-- A list cut into its runes. -/
def chunks (l:List UInt8):List (List UInt8):=
 if h:l=[] then [] else l.take (rwid l)::chunks (l.drop (rwid l))
termination_by l.length
decreasing_by
 have:=rwid_pos l
 have:=List.length_pos_iff.2 h
 rw[List.length_drop];omega
theorem chunks_nil:chunks []=[]:=by rw[chunks,dif_pos rfl]
theorem chunks_ne {l:List UInt8} (h:l≠[]):chunks l=l.take (rwid l)::chunks (l.drop (rwid l)):=by rw[chunks,dif_neg h]
theorem lenInd {P:List UInt8→Prop} (nil:P []) (step:∀l,l≠[]→P (l.drop (rwid l))→P l) (l:List UInt8):P l:=by
 have h:∀(n:Nat) (l:List UInt8),l.length≤n→P l:=by
  intro n
  induction n with
  |zero=>intro l hl;obtain rfl:l=[]:=List.length_eq_zero_iff.1 (by omega);exact nil
  |succ n ih=>
   intro l hl
   by_cases he:l=[]
   ·rw[he];exact nil
   ·have:=rwid_pos l
    exact step l he (ih _ (by rw[List.length_drop];omega))
 exact h _ l (Nat.le_refl _)
theorem chunks_flat (l:List UInt8):(chunks l).flatten=l:=by
 induction l using lenInd with
 |nil=>rw[chunks_nil];rfl
 |step l h ih=>rw[chunks_ne h,List.flatten_cons,ih,List.take_append_drop]
/-- A whole rune: it decodes so, whatever follows. -/
def whole (c:List UInt8):Prop:=c≠[]∧stray c=false∧rwid c=c.length
inductive Chunk (c:List UInt8):Prop
 |ascii (x:UInt8) (hc:c=[x]) (hx:x.toNat<128)
 |bad (x:UInt8) (hc:c=[x]) (hx:128≤x.toNat)
 |many (h2:2≤c.length) (hc:∀x∈c,128≤x.toNat) (hw:whole c) (hr:128≤(decodeL c).1)
theorem dec_ascii (x:UInt8) (t:List UInt8) (hx:x.toNat<128):decodeL (x::t)=(x.toNat,1):=by rw[Lib.decodeL_N];exact Lib.decodeN_ascii _ _ _ _ _ (by simpa using hx)
theorem dec_bad (x:UInt8) (hx:128≤x.toNat):decodeL [x]=(65533,1):=by
 rw[Lib.decodeL_N];exact Lib.decodeN_alone _ _ _ _ _ (by simpa using hx) (.inl (by simp))
theorem rwid_ascii (x:UInt8) (t:List UInt8) (hx:x.toNat<128):rwid (x::t)=1:=by unfold rwid;rw[dec_ascii x t hx]
theorem stray_ascii (x:UInt8) (t:List UInt8) (hx:x.toNat<128):stray (x::t)=false:=by
 unfold stray;rw[dec_ascii x t hx]
 have:¬x.toNat=65533:=by omega
 simp[this]
/-- The rune at the head, as a chunk. -/
theorem head_chunk {l:List UInt8} (h:l≠[]):Chunk (l.take (rwid l))∧decodeL (l.take (rwid l))=decodeL l:=by
 cases dec h with
 |ascii x t hl hx hd=>
  have e:l.take (rwid l)=[x]:=by unfold rwid;rw[hd,hl];rfl
  rw[e]
  exact ⟨.ascii x rfl hx,by rw[hd,dec_ascii x [] hx]⟩
 |bad x t hl hx hd=>
  have e:l.take (rwid l)=[x]:=by unfold rwid;rw[hd,hl];rfl
  rw[e]
  exact ⟨.bad x rfl hx,by rw[hd,dec_bad x hx]⟩
 |many c t hl hc h2 hw hr hd=>
  have e:l.take (rwid l)=c:=by unfold rwid;rw[hw,hl,List.take_left]
  have e2:decodeL c=decodeL l:=by have:=hd [];rwa[List.append_nil] at this
  rw[e]
  refine ⟨.many h2 hc ⟨by intro h;rw[h] at h2;simp at h2,?_,?_⟩ (by rw[e2];exact hr),e2⟩
  ·unfold stray
   rw[e2,hw]
   have:¬c.length=1:=by omega
   simp[this]
  ·unfold rwid;rw[e2,hw]
theorem chunk_mem {l:List UInt8}:∀c∈chunks l,Chunk c:=by
 induction l using lenInd with
 |nil=>rw[chunks_nil];simp
 |step l h ih=>
  rw[chunks_ne h]
  intro c hc
  rcases List.mem_cons.1 hc with rfl|hc
  ·exact (head_chunk h).1
  ·exact ih c hc
theorem whole_app {c:List UInt8} (h:whole c) (r:List UInt8):decodeL (c++r)=decodeL c:=by
 obtain ⟨hne,hs,hw⟩:=h
 cases dec hne with
 |ascii x t hl hx hd=>
  rw[hd,hl,List.cons_append,dec_ascii x _ hx]
 |bad x t hl hx hd=>unfold stray at hs;rw[hd] at hs;simp at hs
 |many c' t hl hc h2 hw' hr hd=>
  have ht:t=[]:=by
   have:=congrArg List.length hl
   unfold rwid at hw
   rw[List.length_append] at this
   exact List.length_eq_zero_iff.1 (by omega)
  rw[ht,List.append_nil] at hl
  rw[←hl] at hd
  exact hd r
theorem chunks_whole {c:List UInt8} (h:whole c) (r:List UInt8):chunks (c++r)=c::chunks r:=by
 have hne:c++r≠[]:=by intro he;exact h.1 (List.append_eq_nil_iff.1 he).1
 have hw:rwid (c++r)=c.length:=by unfold rwid;rw[whole_app h r];exact h.2.2
 rw[chunks_ne hne,hw,List.take_left,List.drop_left]
theorem chunks_wholes:∀ {ks:List (List UInt8)},(∀k∈ks,whole k)→∀r,chunks (ks.flatten++r)=ks++chunks r
 | [],_,r=>by simp
 |k::ks,h,r=>by
  rw[List.flatten_cons,List.append_assoc,chunks_whole (h k (by simp)),chunks_wholes (fun k hk=>h k (by simp[hk])) r,List.cons_append]
theorem whole_ascii (x:UInt8) (hx:x.toNat<128):whole [x]:=⟨by simp,stray_ascii x [] hx,by rw[rwid_ascii x [] hx];rfl⟩
theorem stray_bad (x:UInt8) (hx:128≤x.toNat):stray [x]=true:=by unfold stray;rw[dec_bad x hx];rfl
theorem chunk_whole {c:List UInt8} (h:Chunk c) (hs:stray c=false):whole c:=by
 cases h with
 |ascii x hc hx=>rw[hc];exact whole_ascii x hx
 |bad x hc hx=>rw[hc,stray_bad x hx] at hs;cases hs
 |many h2 hc hw hr=>exact hw
/-- May a chunk be in a text? -/
def okc (c:List UInt8):Bool:=decide (32≤(decodeL c).1)&&(decide ((decodeL c).1≠127)&& !stray c)
def hexd (n:Nat):UInt8:=UInt8.ofNat (if n<10 then 48+n else 87+n)
/-- The chunk, quoted, as chunks. -/
def qk (c:List UInt8):List (List UInt8):=
 if okc c then (if c=[34]∨c=[92] then [[92],c] else [c])
 else [[92],[hexd ((c.getD 0 0).toNat/16)],[hexd ((c.getD 0 0).toNat%16)]]
def qc (c:List UInt8):List UInt8:=(qk c).flatten
def qsChunks (l:List UInt8):List (List UInt8):=[34]::((chunks l).flatMap qk++ [[34]])
def qs (l:List UInt8):List UInt8:=34::((chunks l).flatMap qc++ [34])
theorem flatMap_flatten {α β:Type} (f:α→List (List β)):∀l:List α,(l.flatMap f).flatten=l.flatMap fun x=>(f x).flatten
 | []=>rfl
 |x::l=>by simp[flatMap_flatten f l]
theorem qs_flat (l:List UInt8):qs l=(qsChunks l).flatten:=by
 unfold qs qsChunks qc
 rw[List.flatten_cons,List.flatten_append,flatMap_flatten]
 rfl
theorem hexd_lt (n:Nat) (h:n<16):48≤(hexd n).toNat∧(hexd n).toNat<103∧hexd n≠34∧hexd n≠92∧hexd n≠32:=by
 have:∀n:Fin 16,48≤(hexd n.1).toNat∧(hexd n.1).toNat<103∧hexd n.1≠34∧hexd n.1≠92∧hexd n.1≠32:=by decide
 exact this ⟨n,h⟩
/-- What a hexadecimal digit means; 16: it is none. -/
def hexv (x:UInt8):Nat:=if 48≤x.toNat∧x.toNat≤57 then x.toNat-48 else if 97≤x.toNat∧x.toNat≤102 then x.toNat-87 else 16
theorem hexv_hexd (n:Nat) (h:n<16):hexv (hexd n)=n:=by
 have:∀n:Fin 16,hexv (hexd n.1)=n.1:=by decide
 exact this ⟨n,h⟩
theorem okc_ascii (x:UInt8) (hx:x.toNat<128):okc [x]=true↔32≤x.toNat∧x.toNat≠127:=by
 unfold okc
 rw[dec_ascii x [] hx,stray_ascii x [] hx]
 simp
theorem okc_many {c:List UInt8} (hw:whole c) (hr:128≤(decodeL c).1):okc c=true:=by
 unfold okc
 rw[hw.2.1]
 have h1:32≤(decodeL c).1:=by omega
 have h2:(decodeL c).1≠127:=by omega
 simp[h1,h2]
theorem okc_bad (x:UInt8) (hx:128≤x.toNat):okc [x]=false:=by
 unfold okc
 rw[stray_bad x hx]
 simp
theorem ok_whole {c:List UInt8} (h:Chunk c) (ho:okc c=true):whole c:=by
 refine chunk_whole h ?_
 unfold okc at ho
 simp only[Bool.and_eq_true,Bool.not_eq_true'] at ho
 exact ho.2.2
theorem nok_one {c:List UInt8} (h:Chunk c) (ho:okc c=false):∃x,c=[x]:=by
 cases h with
 |ascii x hc hx=>exact ⟨x,hc⟩
 |bad x hc hx=>exact ⟨x,hc⟩
 |many h2 hc hw hr=>rw[okc_many hw hr] at ho;cases ho
/-- What a chunk is quoted to are whole runes that may be in a text. -/
theorem qk_good {c:List UInt8} (h:Chunk c):∀k∈qk c,whole k∧okc k=true:=by
 intro k hk
 unfold qk at hk
 have a92:whole [(92:UInt8)]∧okc [(92:UInt8)]=true:=⟨whole_ascii 92 (by decide),(okc_ascii 92 (by decide)).2 ⟨by decide,by decide⟩⟩
 split at hk
 ·rename_i ho
  have hw:=ok_whole h ho
  split at hk
  ·rcases List.mem_cons.1 hk with rfl|hk
   ·exact a92
   ·rw[List.mem_singleton] at hk;subst hk;exact ⟨hw,ho⟩
  ·rw[List.mem_singleton] at hk;subst hk;exact ⟨hw,ho⟩
 ·have hx:∀n,n<16→whole [hexd n]∧okc [hexd n]=true:=fun n hn=>by
   obtain ⟨a,b,_⟩:=hexd_lt n hn
   exact ⟨whole_ascii _ (by omega),(okc_ascii _ (by omega)).2 ⟨by omega,by omega⟩⟩
  have hb:=(c.getD 0 0).toNat_lt
  rcases List.mem_cons.1 hk with rfl|hk
  ·exact a92
  ·rcases List.mem_cons.1 hk with rfl|hk
   ·exact hx _ (by omega)
   ·rw[List.mem_singleton] at hk;subst hk;exact hx _ (by omega)
theorem qsChunks_good (l:List UInt8):∀k∈qsChunks l,whole k∧okc k=true:=by
 have a34:whole [(34:UInt8)]∧okc [(34:UInt8)]=true:=⟨whole_ascii 34 (by decide),(okc_ascii 34 (by decide)).2 ⟨by decide,by decide⟩⟩
 intro k hk
 unfold qsChunks at hk
 rcases List.mem_cons.1 hk with rfl|hk
 ·exact a34
 ·rcases List.mem_append.1 hk with hk|hk
  ·obtain ⟨c,hc,hk⟩:=List.mem_flatMap.1 hk
   exact qk_good (chunk_mem c hc) k hk
  ·rw[List.mem_singleton] at hk;subst hk;exact a34
theorem chunks_qs (l r:List UInt8):chunks (qs l++r)=qsChunks l++chunks r:=by
 rw[qs_flat];exact chunks_wholes (fun k hk=>(qsChunks_good l k hk).1) r
/-! Quoted forms, read. -/
def lo:List UInt8→Option (List UInt8)
 | []=>some []
 |x::t=>
  if x=34 then none
  else if x=92 then
   match t with
   | []=>none
   |y::u=>
    if y=34∨y=92 then (lo u).map (y::·)
    else match u with
     | []=>none
     |z::v=>if hexv y<16∧hexv z<16 then (lo v).map (UInt8.ofNat (16*hexv y+hexv z)::·) else none
  else (lo t).map (x::·)
theorem lo_plain (x:UInt8) (t:List UInt8) (h1:x≠34) (h2:x≠92):lo (x::t)=(lo t).map (x::·):=by rw[lo.eq_def];simp[h1,h2]
theorem lo_esc (y:UInt8) (u:List UInt8) (h:y=34∨y=92):lo (92::y::u)=(lo u).map (y::·):=by
 rw[lo.eq_def];simp[h]
theorem lo_hex (y z:UInt8) (v:List UInt8) (h:¬(y=34∨y=92)) (h1:hexv y<16) (h2:hexv z<16):lo (92::y::z::v)=(lo v).map (UInt8.ofNat (16*hexv y+hexv z)::·):=by
 rw[lo.eq_def];simp[h,h1,h2]
theorem lo_highs:∀(c r:List UInt8),(∀x∈c,128≤x.toNat)→lo (c++r)=(lo r).map (c++·)
 | [],r,_=>by simp
 |x::c,r,h=>by
  have hx:=h x (by simp)
  rw[List.cons_append,lo_plain x _ (by rintro rfl;simp at hx) (by rintro rfl;simp at hx),lo_highs c r (fun y hy=>h y (by simp[hy])),Option.map_map]
  rfl
theorem lo_qc {c:List UInt8} (h:Chunk c) (r:List UInt8):lo (qc c++r)=(lo r).map (c++·):=by
 unfold qc qk
 by_cases ho:okc c=true
 ·rw[if_pos ho]
  by_cases he:c=[34]∨c=[92]
  ·rw[if_pos he]
   rcases he with rfl|rfl
   ·exact lo_esc 34 r (.inl rfl)
   ·exact lo_esc 92 r (.inr rfl)
  ·rw[if_neg he]
   simp only[List.flatten_cons,List.flatten_nil,List.append_nil]
   cases h with
   |ascii x hc hx=>
    subst hc
    simp only[List.cons.injEq,and_true,not_or] at he
    exact lo_plain x r he.1 he.2
   |bad x hc hx=>rw[hc,okc_bad x hx] at ho;cases ho
   |many h2 hc hw hr=>exact lo_highs c r hc
 ·rw[if_neg ho]
  rw[Bool.not_eq_true] at ho
  obtain ⟨x,rfl⟩:=nok_one h ho
  have hb:=x.toNat_lt
  obtain ⟨_,_,n1,n2,_⟩:=hexd_lt (x.toNat/16) (by omega)
  simp only[List.flatten_cons,List.flatten_nil,List.append_nil,List.cons_append,List.nil_append,List.getD_cons_zero]
  rw[lo_hex _ _ _ (by simp[n1,n2]) (by rw[hexv_hexd _ (by omega)];omega) (by rw[hexv_hexd _ (by omega)];omega),hexv_hexd _ (by omega),hexv_hexd _ (by omega)]
  congr 2
  funext l
  congr 1
  have:16*(x.toNat/16)+x.toNat%16=x.toNat:=by omega
  rw[this];simp
theorem lo_qcs:∀(cs:List (List UInt8)) (r:List UInt8),(∀c∈cs,Chunk c)→lo (cs.flatMap qc++r)=(lo r).map (cs.flatten++·)
 | [],r,_=>by simp
 |c::cs,r,h=>by
  rw[List.flatMap_cons,List.append_assoc,lo_qc (h c (by simp)),lo_qcs cs r (fun k hk=>h k (by simp[hk])),Option.map_map]
  congr 1
  funext l
  simp
theorem lo_quote (l:List UInt8):lo ((chunks l).flatMap qc)=some l:=by
 have:=lo_qcs (chunks l) [] (fun c hc=>chunk_mem c hc)
 rw[List.append_nil] at this
 rw[this,chunks_flat]
 simp[lo]
/-- What stands between the quotes. -/
def inner (s:List UInt8):List UInt8:=(s.drop 1).take (s.length-2)
theorem inner_qs (l:List UInt8):inner (qs l)=(chunks l).flatMap qc:=by
 unfold inner qs
 simp
theorem qs_ends (l:List UInt8):2≤(qs l).length∧(qs l).getD 0 0=34∧(qs l).getD ((qs l).length-1) 0=34:=by
 unfold qs
 refine ⟨by simp,rfl,?_⟩
 simp[List.getD_eq_getElem?_getD]
def unqL (s:List UInt8):Option (List UInt8):=
 if 2≤s.length∧s.getD 0 0=34∧s.getD (s.length-1) 0=34 then
  match lo (inner s) with
  |some o=>if qs o=s then some o else none
  |none=>none
 else none
theorem unqL_qs (l:List UInt8):unqL (qs l)=some l:=by
 unfold unqL
 rw[if_pos (qs_ends l),inner_qs,lo_quote]
 simp
theorem unqL_some {s o:List UInt8}:unqL s=some o↔qs o=s:=by
 constructor
 ·intro h
  unfold unqL at h
  split at h
  ·split at h
   ·split at h
    ·cases h;assumption
    ·cases h
   ·cases h
  ·cases h
 ·rintro rfl;exact unqL_qs o
/-! Words. -/
def wd (q t:Bool) (cur:List UInt8):List (List UInt8)→Option (List (List UInt8))
 | []=>if q=true∨cur=[] then none else some [cur]
 |c::cs=>
  if t then wd q false (cur++c) cs
  else if c=[34] then wd (!q) false (cur++c) cs
  else if q then wd q (decide (c=[92])) (cur++c) cs
  else if c=[32] then (if cur=[] then none else (wd false false [] cs).map (cur::·))
  else wd q false (cur++c) cs
def wordsL (s:List UInt8):Option (List (List UInt8)):=wd false false [] (chunks s)
def joinSp:List (List UInt8)→List UInt8
 | []=> []
 | [w]=>w
 |w::v::l=>w++32::joinSp (v::l)
theorem wd_join:∀(cs:List (List UInt8)) (q t:Bool) (cur:List UInt8) (ws:List (List UInt8)),wd q t cur cs=some ws→joinSp ws=cur++cs.flatten∧ws≠[]∧∀w∈ws,w≠[]
 | [],q,t,cur,ws,h=>by
  unfold wd at h
  split at h
  ·cases h
  ·rename_i hn
   cases h
   simp only[not_or] at hn
   exact ⟨by simp[joinSp],by simp,by simpa using hn.2⟩
 |c::cs,q,t,cur,ws,h=>by
  have go:∀q t,wd q t (cur++c) cs=some ws→joinSp ws=cur++(c::cs).flatten∧ws≠[]∧∀w∈ws,w≠[]:=fun q t hq=>by
   have:=wd_join cs q t (cur++c) ws hq
   rw[List.flatten_cons,←List.append_assoc]
   exact this
  unfold wd at h
  split at h
  ·exact go _ _ h
  ·split at h
   ·exact go _ _ h
   ·split at h
    ·exact go _ _ h
    ·split at h
     ·split at h
      ·cases h
      ·rename_i hc hcur
       cases hr:wd false false [] cs with
       |none=>rw[hr] at h;cases h
       |some vs=>
        rw[hr] at h
        simp only[Option.map_some,Option.some.injEq] at h
        subst h
        obtain ⟨h1,h2,h3⟩:=wd_join cs _ _ _ _ hr
        obtain ⟨v,vs',rfl⟩:∃v vs',vs=v::vs':=by cases vs with|nil=>exact absurd rfl h2|cons v vs'=>exact ⟨v,vs',rfl⟩
        refine ⟨?_,by simp,?_⟩
        ·rw[joinSp,h1,hc];simp
        ·intro w hw
         rcases List.mem_cons.1 hw with rfl|hw
         ·exact hcur
         ·exact h3 w hw
     ·exact go _ _ h
/-- What is read as words is these with a blank between two. -/
theorem words_join {s:List UInt8} {ws:List (List UInt8)} (h:wordsL s=some ws):joinSp ws=s∧ws≠[]∧∀w∈ws,w≠[]:=by
 have:=wd_join _ _ _ _ _ h
 rw[chunks_flat,List.nil_append] at this
 exact this
/-- Chunks that make no word's end: outside of quotes, none a quote or a blank. -/
theorem wd_plain:∀(ks cs:List (List UInt8)) (cur:List UInt8),(∀k∈ks,k≠[34]∧k≠[32])→wd false false cur (ks++cs)=wd false false (cur++ks.flatten) cs
 | [],cs,cur,_=>by simp
 |k::ks,cs,cur,h=>by
  obtain ⟨h1,h2⟩:=h k (by simp)
  rw[List.cons_append,wd]
  simp only[Bool.false_eq_true,if_false,h1,h2]
  rw[wd_plain ks cs _ (fun k hk=>h k (by simp[hk])),List.append_assoc,List.flatten_cons]
theorem wd_qk {c:List UInt8} (h:Chunk c) (cs:List (List UInt8)) (cur:List UInt8):wd true false cur (qk c++cs)=wd true false (cur++qc c) cs:=by
 unfold qc qk
 by_cases ho:okc c=true
 ·rw[if_pos ho]
  by_cases he:c=[34]∨c=[92]
  ·rw[if_pos he]
   rcases he with rfl|rfl
   ·simp[wd]
   ·simp[wd]
  ·rw[if_neg he]
   simp only[not_or] at he
   simp[wd,he.1,he.2]
 ·rw[if_neg ho]
  rw[Bool.not_eq_true] at ho
  obtain ⟨x,rfl⟩:=nok_one h ho
  have hb:=x.toNat_lt
  obtain ⟨_,_,n1,n2,_⟩:=hexd_lt (x.toNat/16) (by omega)
  obtain ⟨_,_,m1,m2,_⟩:=hexd_lt (x.toNat%16) (by omega)
  simp[wd,m1,m2]
theorem wd_qks:∀(ds cs:List (List UInt8)) (cur:List UInt8),(∀c∈ds,Chunk c)→wd true false cur (ds.flatMap qk++cs)=wd true false (cur++ds.flatMap qc) cs
 | [],cs,cur,_=>by simp
 |d::ds,cs,cur,h=>by
  rw[List.flatMap_cons,List.append_assoc,wd_qk (h d (by simp)),wd_qks ds cs _ (fun c hc=>h c (by simp[hc])),List.append_assoc,List.flatMap_cons]
theorem wd_quote (l:List UInt8) (cs:List (List UInt8)) (cur:List UInt8):wd false false cur (qsChunks l++cs)=wd false false (cur++qs l) cs:=by
 unfold qsChunks qs
 rw[List.cons_append,wd]
 simp only[Bool.false_eq_true,if_false,if_true,Bool.not_false]
 rw[List.append_assoc,wd_qks _ _ _ (fun c hc=>chunk_mem c hc)]
 simp only[List.cons_append,List.nil_append]
 rw[wd]
 simp
theorem chunks_sgn:∀(s r:List UInt8),s.all tsgn=true→chunks (s++r)=s.map ([·])++chunks r
 | [],r,_=>by simp
 |x::s,r,h=>by
  simp only[List.all_cons,Bool.and_eq_true] at h
  have hx:x.toNat<128:=by have:=of_decide_eq_true h.1;omega
  have:=chunks_whole (whole_ascii x hx) (s++r)
  rw[List.cons_append,List.nil_append] at this
  rw[List.cons_append,this,chunks_sgn s r h.2]
  rfl
theorem flatten_singles:∀s:List UInt8,(s.map ([·])).flatten=s
 | []=>rfl
 |x::s=>by simp[flatten_singles s]
theorem wd_token {s:List UInt8} (h:s.all tsgn=true) (cs:List (List UInt8)) (cur:List UInt8):wd false false cur (s.map ([·])++cs)=wd false false (cur++s) cs:=by
 rw[wd_plain,flatten_singles]
 intro k hk
 obtain ⟨x,hx,rfl⟩:=List.mem_map.1 hk
 have:=of_decide_eq_true ((List.all_eq_true.1 h) x hx)
 constructor
 ·intro e;simp at e;subst e;simp at this
 ·intro e;simp at e;subst e;simp at this
/-- A word as it is written: a quoted form, or a token. -/
def isWord (w:List UInt8):Prop:=(∃l,w=qs l)∨tokL w=true
theorem isWord_ne {w:List UInt8} (h:isWord w):w≠[]:=by
 rcases h with ⟨l,rfl⟩|h
 ·unfold qs;simp
 ·rintro rfl;simp[tokL] at h
theorem wd_word {w:List UInt8} (h:isWord w) (r cur:List UInt8):wd false false cur (chunks (w++r))=wd false false (cur++w) (chunks r):=by
 rcases h with ⟨l,rfl⟩|h
 ·rw[chunks_qs,wd_quote]
 ·unfold tokL at h
  simp only[Bool.and_eq_true] at h
  rw[chunks_sgn _ _ h.2,wd_token h.2]
theorem chunks_sp (r:List UInt8):chunks (32::r)=[32]::chunks r:=chunks_whole (whole_ascii 32 (by decide)) r
theorem wd_sp {cur:List UInt8} (h:cur≠[]) (r:List UInt8):wd false false cur (chunks (32::r))=(wd false false [] (chunks r)).map (cur::·):=by
 rw[chunks_sp,wd];simp[h]
/-- Quoted forms and tokens, a blank between two, are read as these words; with a blank more they are none. -/
theorem words_of:∀(ws:List (List UInt8)),ws≠[]→(∀w∈ws,isWord w)→wordsL (joinSp ws)=some ws∧wordsL (joinSp ws++ [32])=none∧wordsL (32::joinSp ws)=none
 | [],h,_=>absurd rfl h
 | [w],_,h=>by
  have hw:=h w (by simp)
  have hne:=isWord_ne hw
  unfold wordsL joinSp
  refine ⟨?_,?_,?_⟩
  ·have:=wd_word hw [] []
   rw[List.append_nil,chunks_nil,List.nil_append] at this
   rw[this,wd];simp[hne]
  ·rw[wd_word hw,List.nil_append,wd_sp hne,chunks_nil,wd];simp
  ·rw[chunks_sp,wd];simp
 |w::v::l,_,h=>by
  have hw:=h w (by simp)
  have hne:=isWord_ne hw
  obtain ⟨h1,h2,h3⟩:=words_of (v::l) (by simp) (fun x hx=>h x (by simp[hx]))
  unfold wordsL at*
  rw[joinSp]
  refine ⟨?_,?_,?_⟩
  ·rw[wd_word hw,List.nil_append,wd_sp hne,h1];rfl
  ·rw[List.append_assoc,wd_word hw,List.nil_append,List.cons_append,wd_sp hne,h2];rfl
  ·rw[chunks_sp,wd];simp
end Go.Plain

namespace Go.Vc

/-- Plain data: what a Go value reads as. A struct and a slice are lists. -/
inductive C where
 |int (n:Int)
 |bool (b:Bool)
 |str (s:List UInt8)
 |ls (l:List C)
instance:Inhabited C:=⟨.int 0⟩
def C.toInt:C→Int| .int n=>n|_=>0
def C.toBool:C→Bool| .bool b=>b|_=>false
def C.toStr:C→List UInt8| .str s=>s|_=> []
def C.toList:C→List C| .ls l=>l|_=> []
def C.hd (c:C):C:=c.toList.headD (.int 0)
def C.tl (c:C):C:= .ls c.toList.tail
/-- With the j-th field another one. -/
def C.fset:C→Nat→C→C
 |c,0,x=> .ls (x::c.tl.toList)
 |c,j+1,x=> .ls (c.hd::(c.tl.fset j x).toList)
@[simp] theorem C.toInt_int (n:Int):(C.int n).toInt=n:=rfl
@[simp] theorem C.toBool_bool (b:Bool):(C.bool b).toBool=b:=rfl
@[simp] theorem C.toStr_str (s:List UInt8):(C.str s).toStr=s:=rfl
@[simp] theorem C.toList_ls (l:List C):(C.ls l).toList=l:=rfl
@[simp] theorem C.hd_cons (x:C) (l:List C):(C.ls (x::l)).hd=x:=rfl
@[simp] theorem C.tl_cons (x:C) (l:List C):(C.ls (x::l)).tl= .ls l:=rfl
/-- The shape of a value: how its data lies in cells. A struct is a chain of pairs. -/
inductive Sh where
 |int (k:IntKind)
 |bool
 |str
 |sl (e:Sh)
 |unit
 |pair (a b:Sh)
 |ifc (t:TypeId) (s:Sh)
 |nili
 |fun_ (f:FuncId)
 |mp (k:IntKind) (s:Sh)
 deriving DecidableEq,Repr
def Sh.size:Sh→Nat
 | .int _| .bool| .str| .sl _| .ifc _ _| .nili| .fun_ _| .mp _ _=>1
 | .unit=>0
 | .pair a b=>a.size+b.size
def Sh.isAgg:Sh→Bool
 | .unit| .pair _ _=>true
 |_=>false
/-- The j-th field of a struct's shape, with its first cell's number. -/
def Sh.fld:Sh→Nat→Option (Sh×Nat)
 | .pair a _,0=>some (a,0)
 | .pair a b,j+1=>(b.fld j).map fun (s,o)=>(s,a.size+o)
 |_,_=>none
/-- Expressions. -/
inductive E where
 |var (i:Nat)
 |int (n:Int)
 |bool (b:Bool)
 |str (s:List UInt8)
 |nil
 |nilS
 |cons (h t:E)
 |hd (e:E)
 |tl (e:E)
 |fset (j:Nat) (e x:E)
 |bin (op:BinOp) (k:IntKind) (x y:E)
 |raw (op:BinOp) (x y:E)
 |cmp (op:BinOp) (x y:E)
 |scmp (op:BinOp) (x y:E)
 |beq (x y:E)
 |not (x:E)
 |ite (c x y:E)
 |conv (k:IntKind) (x:E)
 |xorK (k:IntKind) (x:E)
 |len (x:E)
 |slen (x:E)
 |idx (l i:E)
 |sidx (s i:E)
 |sub (l lo hi:E)
 |ssub (s lo hi:E)
 |app (l m:E)
 |set (l i x:E)
 |rep (n x:E)
 |splice (l off m:E)
 |toStr (l:E)
 |ofStr (s:E)
 |cat (s t:E)
 |minI (x y:E)
 |maxI (x y:E)
 |fits (k:IntKind) (x:E)
 |deq (s:Sh) (x y:E)
 |mget (m k z:E)
 |mhas (m k:E)
 |mput (m k v:E)
 |drune (s p:E)
 |dwid (s p:E)
 deriving Inhabited,DecidableEq
/-- A map, as a list of pairs: the pair of a key; with a key set to a value. -/
def mfind (l:List C) (k:Int):Option C:=l.find? fun d=>d.hd.toInt==k
def mset:List C→Int→C→List C
 | [],k,v=> [.ls [.int k,v]]
 |d::l,k,v=>if d.hd.toInt=k then .ls [.int k,v]::l else d::mset l k v
/-- Equal as data of a shape without slices. -/
def dataEq:Sh→C→C→Bool
 | .int _,x,y=>x.toInt==y.toInt
 | .bool,x,y=>x.toBool==y.toBool
 | .str,x,y=>x.toStr==y.toStr
 | .sl _,_,_=>false
 | .unit,_,_=>true
 | .pair a b,x,y=>dataEq a x.hd y.hd&&dataEq b x.tl y.tl
 |_,_,_=>false
/-- Go's arithmetic on integers of one kind. -/
def arith (op:BinOp) (k:IntKind) (x y:Int):Int:=
 match op with
 | .add=>k.wrap (x+y)
 | .sub=>k.wrap (x-y)
 | .mul=>k.wrap (x*y)
 | .quo=>k.wrap (x.tdiv y)
 | .rem=>x.tmod y
 | .and=>k.wrap (BitVec.ofInt k.bits x&&&BitVec.ofInt k.bits y).toNat
 | .or=>k.wrap (BitVec.ofInt k.bits x|||BitVec.ofInt k.bits y).toNat
 | .xor=>k.wrap (BitVec.ofInt k.bits x^^^BitVec.ofInt k.bits y).toNat
 | .andNot=>k.wrap (BitVec.ofInt k.bits x&&& ~~~BitVec.ofInt k.bits y).toNat
 | .shl=>k.wrap (x*2^(min y.toNat k.bits))
 | .shr=>x.fdiv (2^(min y.toNat k.bits))
 |_=>0
def rawArith (op:BinOp) (x y:Int):Int:=
 match op with
 | .add=>x+y
 | .sub=>x-y
 | .mul=>x*y
 |_=>0
def cmpI (op:BinOp) (x y:Int):Bool:=
 match op with
 | .eql=>x==y
 | .neq=>x !=y
 | .lss=>x<y
 | .leq=>x≤y
 | .gtr=>x>y
 | .geq=>x≥y
 |_=>false
def cmpS (op:BinOp) (x y:List UInt8):Bool:=
 match op with
 | .eql=>x==y
 | .neq=> !(x==y)
 | .lss=>Op.bytesLess x y
 | .leq=>Op.bytesLess x y||x==y
 | .gtr=> !(Op.bytesLess x y||x==y)
 | .geq=> !Op.bytesLess x y
 |_=>false
/-- l with m laid over it from place k on, as far as l goes. -/
def splice {α:Type} (l:List α) (k:Nat) (m:List α):List α:=l.take k++(m.take (l.length-k)++l.drop (k+m.length))
def bytesOf (l:List C):List UInt8:=l.map fun c=>UInt8.ofNat c.toInt.toNat
def ofBytes (s:List UInt8):List C:=s.map fun b=> .int b.toNat
def E.eval (ρ:List C):E→C
 | .var i=>ρ.getD i default
 | .int n=> .int n
 | .bool b=> .bool b
 | .str s=> .str s
 | .nil=> .ls []
 | .nilS=> .ls []
 | .cons h t=> .ls (h.eval ρ::(t.eval ρ).toList)
 | .hd e=>(e.eval ρ).hd
 | .tl e=>(e.eval ρ).tl
 | .fset j e x=>(e.eval ρ).fset j (x.eval ρ)
 | .bin op k x y=> .int (arith op k (x.eval ρ).toInt (y.eval ρ).toInt)
 | .raw op x y=> .int (rawArith op (x.eval ρ).toInt (y.eval ρ).toInt)
 | .cmp op x y=> .bool (cmpI op (x.eval ρ).toInt (y.eval ρ).toInt)
 | .scmp op x y=> .bool (cmpS op (x.eval ρ).toStr (y.eval ρ).toStr)
 | .beq x y=> .bool ((x.eval ρ).toBool==(y.eval ρ).toBool)
 | .not x=> .bool !(x.eval ρ).toBool
 | .ite c x y=>if (c.eval ρ).toBool then x.eval ρ else y.eval ρ
 | .conv k x=> .int (k.wrap (x.eval ρ).toInt)
 | .xorK k x=> .int (k.wrap (BitVec.ofInt k.bits (if k.signed then-1 else k.max)^^^BitVec.ofInt k.bits (x.eval ρ).toInt).toNat)
 | .len x=> .int (x.eval ρ).toList.length
 | .slen x=> .int (x.eval ρ).toStr.length
 | .idx l i=>(l.eval ρ).toList.getD (i.eval ρ).toInt.toNat default
 | .sidx s i=> .int ((s.eval ρ).toStr.getD (i.eval ρ).toInt.toNat 0).toNat
 | .sub l lo hi=> .ls (((l.eval ρ).toList.take (hi.eval ρ).toInt.toNat).drop (lo.eval ρ).toInt.toNat)
 | .ssub s lo hi=> .str (((s.eval ρ).toStr.take (hi.eval ρ).toInt.toNat).drop (lo.eval ρ).toInt.toNat)
 | .app l m=> .ls ((l.eval ρ).toList++(m.eval ρ).toList)
 | .set l i x=> .ls ((l.eval ρ).toList.set (i.eval ρ).toInt.toNat (x.eval ρ))
 | .rep n x=> .ls (List.replicate (n.eval ρ).toInt.toNat (x.eval ρ))
 | .splice l off m=> .ls (Vc.splice (l.eval ρ).toList (off.eval ρ).toInt.toNat (m.eval ρ).toList)
 | .toStr l=> .str (bytesOf (l.eval ρ).toList)
 | .ofStr s=> .ls (ofBytes (s.eval ρ).toStr)
 | .cat s t=> .str ((s.eval ρ).toStr++(t.eval ρ).toStr)
 | .minI x y=> .int (min (x.eval ρ).toInt (y.eval ρ).toInt)
 | .maxI x y=> .int (max (x.eval ρ).toInt (y.eval ρ).toInt)
 | .deq s x y=> .bool (dataEq s (x.eval ρ) (y.eval ρ))
 | .fits k x=> .bool (decide (k.min≤(x.eval ρ).toInt∧(x.eval ρ).toInt≤k.max))
 | .mget m k z=>match mfind (m.eval ρ).toList (k.eval ρ).toInt with|some d=>d.tl.hd|none=>z.eval ρ
 | .mhas m k=> .bool (mfind (m.eval ρ).toList (k.eval ρ).toInt).isSome
 | .mput m k v=> .ls (mset (m.eval ρ).toList (k.eval ρ).toInt (v.eval ρ))
 | .drune s p=> .int (Utf8.decode ⟨(s.eval ρ).toStr.toArray⟩ (p.eval ρ).toInt.toNat).1
 | .dwid s p=> .int (Utf8.decode ⟨(s.eval ρ).toStr.toArray⟩ (p.eval ρ).toInt.toNat).2
/-- All variables are below n. -/
def E.bd (n:Nat):E→Bool
 | .var i=>i<n
 | .int _| .bool _| .str _| .nil| .nilS=>true
 | .hd e| .tl e| .not e| .conv _ e| .xorK _ e| .len e| .slen e| .toStr e| .ofStr e| .fits _ e=>e.bd n
 | .cons x y| .fset _ x y| .bin _ _ x y| .raw _ x y| .cmp _ x y| .scmp _ x y| .beq x y| .idx x y| .sidx x y| .app x y| .rep x y| .cat x y| .minI x y| .maxI x y| .deq _ x y| .mhas x y| .drune x y| .dwid x y=>x.bd n&&y.bd n
 | .ite x y z| .sub x y z| .ssub x y z| .set x y z| .splice x y z| .mget x y z| .mput x y z=>x.bd n&&(y.bd n&&z.bd n)
theorem E.eval_app (ρ σ:List C) (e:E) (h:e.bd ρ.length=true):e.eval (ρ++σ)=e.eval ρ:=by
 induction e with
 |var i=>simp[E.bd] at h;simp[E.eval,List.getD,List.getElem?_append_left h]
 |_=>simp_all[E.bd,E.eval]
end Go.Vc

namespace Go
/-- The value is nil, or leads to a block of cells, all of it, as kit's 'ownsRow'; which blocks may be, a predicate says. -/
def World.ownsR (w : World) (B : Nat → Prop) (e : TypeId) (size : Nat) (v : Value) (n : Nat) (xs : List Value) : Prop :=
  xs.length = n * size ∧
  ((v = .slice none 0 0 ∧ n = 0) ∨
   ∃ g cap cur, v = .slice (some ⟨g, 0, none⟩) n cap ∧ B g ∧ w.heap[g]? = some (.cells cur e (0, 0)) ∧ n ≤ cap ∧ cap ≤ maxLen ∧ cur.size = cap * size ∧ cur.toList.take (n * size) = xs)
end Go
namespace Go.Vc
open Go.RowKit

/-- The cells us stand at block b from place off on. -/
def CellsAt (w:World) (b off:Nat) (us:List Value):Prop:=∀j u,us[j]?=some u→w.cell? ⟨b,off+j,none⟩=some u
/-- The elements l stand, one behind the other, each of n cells, R says how one reads. -/
def RowAt (w:World) (n:Nat) (R:List Value→C→Prop) (b off:Nat) (l:List C):Prop:=
 ∀i c,l[i]?=some c→∃us,us.length=n∧CellsAt w b (off+i*n) us∧R us c
def Sh.mk (s:Sh) (vs:List Value):Value:=if s.isAgg then .agg vs.toArray else vs.headD undef
/-- Block b is a map of these pairs, the keys of one kind of integers. -/
def MapIs (w:World) (b:Nat) (kk:IntKind) (l:List (Int×Value)):Prop:=
 ∃es clock,w.heap[b]?=some (.map es clock)∧es.toList.map (fun e=>(e.key,e.val))=l.map fun p=>(.int kk p.1,p.2)
/-- Pairs read as data, one by one. -/
def MapRd (R:Value→C→Prop):List (Int×Value)→List C→Prop
 | [],[]=>True
 |p::l,d::cs=>d.hd.toInt=p.1∧R p.2 d.tl.hd∧MapRd R l cs
 |_,_=>False
/-- The cells read as data of a shape; all memory that is met lies in blocks that N allows. -/
def Rd (w:World) (N:Nat→Prop):Sh→List Value→C→Prop
 | .int k,vs,c=>vs=[.int k c.toInt]
 | .bool,vs,c=>vs=[.bool c.toBool]
 | .str,vs,c=>vs=[.string ⟨c.toStr.toArray⟩]
 | .sl e,vs,c=>∃a cap,vs=[.slice a c.toList.length cap]∧c.toList.length≤cap∧cap≤maxLen∧
   (c.toList≠[]→∃b off,a=some ⟨b,off,none⟩∧N b∧b<w.heap.size∧RowAt w e.size (Rd w N e) b off c.toList)
 | .unit,vs,_=>vs=[]
 | .pair a b,vs,c=>b.isAgg=true∧∃va vb,vs=va++vb∧Rd w N a va c.hd∧Rd w N b vb c.tl
 | .ifc t s,vs,c=>∃us,vs=[.iface t (s.mk us)]∧Rd w N s us c
 | .nili,vs,_=>vs=[.nilIface]
 | .fun_ f,vs,_=>vs=[.func (.func f) #[] #[]]
 | .mp k s,vs,c=>∃g l,vs=[.map (some g)]∧N g∧g<w.heap.size∧MapIs w g k l∧MapRd (fun v d=>Rd w N s [v] d) l c.toList
/-- A value reads as data. -/
def RdV (w:World) (N:Nat→Prop) (s:Sh) (v:Value) (c:C):Prop:=∃vs,Rd w N s vs c∧v=s.mk vs
/-- Values read as data, one by one. -/
def RdVs (w:World) (N:Nat→Prop):List (Sh×C)→List Value→Prop
 | [],vs=>vs=[]
 |(s,c)::l,vs=>∃v r,vs=v::r∧RdV w N s v c∧RdVs w N l r
/-- What a call hands back: one value, or a tuple. -/
def RdRes (w:World) (N:Nat→Prop) (l:List (Sh×C)) (v:Value):Prop:=
 ∃vs,RdVs w N l vs∧v=(if h:vs.length=1 then vs[0] else .tuple vs.toArray)
/-- A function with a body. -/
def Callable (P:Program) (f:FuncId):Prop:=∃fn,P.funcs[f]?=some fn∧fn.body.isNone=false∧(fn.name== "runtime.NumGoroutine")=false
def blkNo:Value→Option Nat
 | .slice (some a) _ _=>some a.block
 | .pointer (some a)=>some a.block
 | .map (some b)=>some b
 |_=>none
/-- Cells read as a list of elements, one behind the other. -/
def RdRow (w:World) (N:Nat→Prop) (s:Sh):List Value→List C→Prop
 |xs,[]=>xs=[]
 |xs,c::l=>∃u r,xs=u++r∧Rd w N s u c∧RdRow w N s r l
/-- What a call hands back, as one value. -/
def pack (vs:List Value):Value:=if h:vs.length=1 then vs[0] else .tuple vs.toArray
/-! TABLES OF THE LIBRARY, that stand in variables, by name: a call leans on them. -/
def tFirst (c:Nat):Int:=
 if c<128 then 240 else if c<194 then 241 else if c<224 then 2 else if c=224 then 19 else if c=237 then 35 else if c<240 then 3 else if c=240 then 52 else if c<244 then 4 else if c=244 then 68 else 241
def tAccept:List Int:=[128,191,160,191,128,159,144,191,128,143,0,0,0,0,0,0,0,0,0,0,0,0,0,0,0,0,0,0,0,0,0,0]
def tPow10:List Int:=[1,10,100,1000,10000,100000,1000000,10000000,100000000,1000000000,10000000000,100000000000,1000000000000,10000000000000,100000000000000,1000000000000000,10000000000000000,100000000000000000,1000000000000000000,10000000000000000000]
def tabs:List (String×List Value):=[("unicode/utf8.first",(List.range 256).map fun c=> .int .u8 (tFirst c)),("unicode/utf8.acceptRanges",tAccept.map fun n=> .int .u8 n)]
def tabAt (P:Program) (n:String):Option Nat:=P.globals.findIdx? fun y=>y.name==n
def pow10Name:String:= "internal/strconv.uint64pow10"
/-- A table that a variable holds whole. -/
def KWp (P:Program) (w:World):Prop:=∀g,tabAt P pow10Name=some g→∃t fz,w.heap[g]?=some (.cells (tPow10.map fun n=>Value.int .u64 n).toArray t fz)
def KW (P:Program) (w:World):Prop:=(∀x∈tabs,∀g,tabAt P x.1=some g→CellsAt w g 0 x.2)∧KWp P w
def KWb (P:Program) (g:Nat):Prop:=(∃x∈tabs,tabAt P x.1=some g)∨tabAt P pow10Name=some g
theorem cell_keep {w w':World} {a:Addr} (h:w'.heap[a.block]?=w.heap[a.block]?):w'.cell? a=w.cell? a:=by unfold World.cell?;rw[h]
theorem KW.keep {P:Program} {w w':World} (h:KW P w) (hk:∀g,KWb P g→w'.heap[g]?=w.heap[g]?):KW P w':=by
 refine ⟨fun x hx g hg j u hu=>?_,fun g hg=>?_⟩
 ·rw[cell_keep (hk g (.inl ⟨x,hx,hg⟩))]
  exact h.1 x hx g hg j u hu
 ·rw[hk g (.inr hg)]
  exact h.2 g hg
theorem tabs_ne:∀x∈tabs,∃u,x.2[0]?=some u:=by
 intro x hx
 simp only[tabs,List.mem_cons,List.mem_nil_iff,or_false] at hx
 rcases hx with rfl|rfl
 ·exact ⟨_,rfl⟩
 ·exact ⟨_,rfl⟩
theorem KW.lt {P:Program} {w:World} (h:KW P w) {g:Nat} (hg:KWb P g):g<w.heap.size:=by
 rcases hg with ⟨x,hx,hg⟩|hg
 ·obtain ⟨u,hu⟩:=tabs_ne x hx
  have:=h.1 x hx g hg 0 u hu
  rcases Nat.lt_or_ge g w.heap.size with h'|h'
  ·exact h'
  ·simp[World.cell?,Array.getElem?_eq_none h'] at this
 ·obtain ⟨t,fz,h2⟩:=h.2 g hg
  exact (Array.getElem?_eq_some_iff.1 h2).1
def noTabs (P:Program):Bool:=(tabs.all fun x=>(tabAt P x.1).isNone)&&(tabAt P pow10Name).isNone
theorem kw_none {P:Program} (h:noTabs P=true) (w:World):KW P w:=by
 simp only[noTabs,Bool.and_eq_true] at h
 refine ⟨fun x hx g hg=>?_,fun g hg=>?_⟩
 ·have:=List.all_eq_true.1 h.1 x hx
  rw[hg] at this
  cases this
 ·have:=h.2
  rw[hg] at this
  cases this
theorem KW.below {P:Program} {w w':World} (h:KW P w) (hb:Below w.heap.size w w'):KW P w':=h.keep fun g hg=>hb.block g (h.lt hg)
/-- THE CONTRACT OF A PURE CALL: handed values that read as args it returns values that read as rets; nothing that was there has turned. -/
def PC0 (P:Program) (f:FuncId) (args rets:List (Sh×C)):Prop:=
 Callable P f∧∀(w:World) (N:Nat→Prop) (vs:List Value),KW P w→RdVs w N args vs→
  Calls P f vs.toArray w fun e w'=>∃v,e= .returned v∧RdRes w' (fun b=>N b∨w.heap.size≤b) rets v∧Below w.heap.size w w'
/-- What lies, behind the call, in blocks that N allows, or in new ones, or in that of v0; not in that of v1. -/
def Behind (N:Nat→Prop) (w:World) (v0 v1:Value) (b:Nat):Prop:=(N b∨w.heap.size≤b∨blkNo v0=some b)∧blkNo v1≠some b
/-- THE CONTRACT OF A CALL THAT IS HANDED A ROW OF THE CALLER's OWN (its first argument) AND HANDS ONE BACK (its first result). -/
def GC (P:Program) (f:FuncId) (args rets:List (Sh×C)):Prop:=
 ∃s c0 args' c1 rets',args=(.sl s,c0)::args'∧rets=(.sl s,c1)::rets'∧Callable P f∧
  ∀(w:World) (N:Nat→Prop) (et:TypeId) (xs:List Value) (v0:Value) (vs:List Value),
   KW P w→(∀g,blkNo v0=some g→¬KWb P g)→w.ownsR (fun _=>True) et s.size v0 c0.toList.length xs→RdRow w N s xs c0.toList→(∀g,blkNo v0=some g→¬N g)→RdVs w N args' vs→
   Calls P f (v0::vs).toArray w fun e w'=>∃v1 vr et' xs',e= .returned (pack (v1::vr))∧w.grownBy w' (blkNo v0)∧
    w'.ownsR (fun g=>w.heap.size≤g∨blkNo v0=some g) et' s.size v1 c1.toList.length xs'∧RdRow w' (Behind N w v0 v1) s xs' c1.toList∧RdVs w' (Behind N w v0 v1) rets' vr
/-- THE CONTRACT OF A CALL THAT HANDS BACK A NEW ROW (its first result), which nobody else holds. -/
def FC (P:Program) (f:FuncId) (args rets:List (Sh×C)):Prop:=
 ∃s c1 rets',rets=(.sl s,c1)::rets'∧Callable P f∧
  ∀(w:World) (N:Nat→Prop) (vs:List Value),KW P w→RdVs w N args vs→
   Calls P f vs.toArray w fun e w'=>∃v1 vr et' xs',e= .returned (pack (v1::vr))∧Below w.heap.size w w'∧
    w'.ownsR (fun g=>w.heap.size≤g) et' s.size v1 c1.toList.length xs'∧RdRow w' (Behind N w (.slice none 0 0) v1) s xs' c1.toList∧RdVs w' (Behind N w (.slice none 0 0) v1) rets' vr
/-- All slices in it are nil. -/
def NilL:Sh→List Value→Prop
 | .sl _,vs=>vs=[.slice none 0 0]
 | .pair a b,vs=>∃va vb,vs=va++vb∧va.length=a.size∧NilL a va∧NilL b vb
 | .ifc _ _,_| .mp _ _,_=>False
 |_,_=>True
/-- THE CONTRACT OF A PURE CALL that hands back one value all of whose slices are nil. -/
def NC (P:Program) (f:FuncId) (args rets:List (Sh×C)):Prop:=
 ∃s c,rets=[(s,c)]∧Callable P f∧∀(w:World) (N:Nat→Prop) (vs:List Value),KW P w→RdVs w N args vs→
  Calls P f vs.toArray w fun e w'=>∃us,e= .returned (s.mk us)∧Rd w' (fun b=>N b∨w.heap.size≤b) s us c∧NilL s us∧Below w.heap.size w w'
/-- A contract, by its number: a million more: GC; two million more: FC; three million more: NC. -/
def PC (P:Program) (f:Nat) (args rets:List (Sh×C)):Prop:=
 if f<1000000 then PC0 P f args rets else if f<2000000 then GC P (f-1000000) args rets else if f<3000000 then FC P (f-2000000) args rets else NC P (f-3000000) args rets
theorem PC.of0 {P:Program} {f:Nat} {args rets:List (Sh×C)} (hf:f<1000000) (h:PC0 P f args rets):PC P f args rets:=by unfold PC;rw[if_pos hf];exact h
theorem PC.to0 {P:Program} {f:Nat} {args rets:List (Sh×C)} (hf:f<1000000) (h:PC P f args rets):PC0 P f args rets:=by unfold PC at h;rwa[if_pos hf] at h
theorem PC.ofG {P:Program} {f:Nat} {args rets:List (Sh×C)} (hf:f<1000000) (h:GC P f args rets):PC P (1000000+f) args rets:=by
 unfold PC;rw[if_neg (by omega),if_pos (by omega),Nat.add_sub_cancel_left];exact h
theorem PC.toG {P:Program} {f:Nat} {args rets:List (Sh×C)} (hf:f<1000000) (h:PC P (1000000+f) args rets):GC P f args rets:=by
 unfold PC at h;rwa[if_neg (by omega),if_pos (by omega),Nat.add_sub_cancel_left] at h
theorem PC.ofF {P:Program} {f:Nat} {args rets:List (Sh×C)} (hf:f<1000000) (h:FC P f args rets):PC P (2000000+f) args rets:=by
 unfold PC;rw[if_neg (by omega),if_neg (by omega),if_pos (by omega),Nat.add_sub_cancel_left];exact h
theorem PC.toF {P:Program} {f:Nat} {args rets:List (Sh×C)} (hf:f<1000000) (h:PC P (2000000+f) args rets):FC P f args rets:=by
 unfold PC at h;rwa[if_neg (by omega),if_neg (by omega),if_pos (by omega),Nat.add_sub_cancel_left] at h
theorem PC.toN {P:Program} {f:Nat} {args rets:List (Sh×C)} (h:PC P (3000000+f) args rets):NC P f args rets:=by
 unfold PC at h;rwa[if_neg (by omega),if_neg (by omega),if_neg (by omega),Nat.add_sub_cancel_left] at h
theorem Rd.length {w:World} {N:Nat→Prop}:∀ {s:Sh} {vs:List Value} {c:C},Rd w N s vs c→vs.length=s.size
 | .int _,_,_,h| .bool,_,_,h| .str,_,_,h=>by simp only[Rd] at h;subst h;rfl
 | .sl _,_,_,h=>by obtain ⟨_,_,rfl,_⟩:=h;rfl
 | .unit,_,_,h=>by simp only[Rd] at h;subst h;rfl
 | .pair _ _,_,_,h=>by
  obtain ⟨_,va,vb,rfl,ha,hb⟩:=h
  simp[Sh.size,Rd.length ha,Rd.length hb]
 | .ifc _ _,_,_,h=>by obtain ⟨_,rfl,_⟩:=h;rfl
 | .nili,_,_,h| .fun_ _,_,_,h=>by simp only[Rd] at h;subst h;rfl
 | .mp _ _,_,_,h=>by obtain ⟨_,_,rfl,_⟩:=h;rfl
/-- A struct's data is read through its list alone. -/
theorem Rd.of_list {w:World} {N:Nat→Prop} {s:Sh} {vs:List Value} {c c':C} (hs:s.isAgg=true) (hc:c.toList=c'.toList) (h:Rd w N s vs c):Rd w N s vs c':=by
 cases s with
 |unit=>exact h
 |pair a b=>
  obtain ⟨h0,va,vb,h1,h2,h3⟩:=h
  refine ⟨h0,va,vb,h1,?_,?_⟩
  ·simpa [C.hd,hc] using h2
  ·simpa [C.tl,hc] using h3
 |_=>cases hs
theorem CellsAt.mono {w w':World} {b off:Nat} {us:List Value} (h:CellsAt w b off us) (hb:w'.heap[b]?=w.heap[b]?):CellsAt w' b off us:=
 fun j u hu=>(World.cell?_of_block (w:=w) (a:=⟨b,off+j,none⟩) hb).trans (h j u hu)
theorem MapIs.same {w w':World} {b:Nat} {kk:IntKind} {l:List (Int×Value)} (h:MapIs w b kk l) (hb:w'.heap[b]?=w.heap[b]?):MapIs w' b kk l:=by
 obtain ⟨es,clock,h1,h2⟩:=h
 exact ⟨es,clock,hb.trans h1,h2⟩
theorem MapRd.imp {R R':Value→C→Prop} (h:∀v d,R v d→R' v d):∀ {l:List (Int×Value)} {cs:List C},MapRd R l cs→MapRd R' l cs
 | [],[],_=>trivial
 |_::_,_::_,⟨h1,h2,h3⟩=>⟨h1,h _ _ h2,MapRd.imp h h3⟩
 | [],_::_,h=>h.elim
 |_::_,[],h=>h.elim
/-- Readings are kept where the allowed blocks are kept; more blocks may be allowed. -/
theorem Rd.mono {w w':World} {N N':Nat→Prop} (hs:w.heap.size≤w'.heap.size) (hk:∀b,N b→b<w.heap.size→w'.heap[b]?=w.heap[b]?∧N' b):
  ∀ {s:Sh} {vs:List Value} {c:C},Rd w N s vs c→Rd w' N' s vs c
 | .int _,_,_,h| .bool,_,_,h| .str,_,_,h=>h
 | .sl e,_,_,⟨a,cap,h1,h2,h3,h4⟩=>⟨a,cap,h1,h2,h3,fun hne=>by
   obtain ⟨b,off,ha,hn,hlt,hr⟩:=h4 hne
   refine ⟨b,off,ha,(hk b hn hlt).2,Nat.lt_of_lt_of_le hlt hs,fun i c hc=>?_⟩
   obtain ⟨us,h5,h6,h7⟩:=hr i c hc
   exact ⟨us,h5,h6.mono (hk b hn hlt).1,Rd.mono hs hk h7⟩⟩
 | .unit,_,_,h=>h
 | .pair _ _,_,_,⟨h0,va,vb,h1,h2,h3⟩=>⟨h0,va,vb,h1,Rd.mono hs hk h2,Rd.mono hs hk h3⟩
 | .ifc _ _,_,_,⟨us,h1,h2⟩=>⟨us,h1,Rd.mono hs hk h2⟩
 | .nili,_,_,h| .fun_ _,_,_,h=>h
 | .mp _ _,_,_,⟨g,l,h1,h2,h3,h4,h5⟩=>⟨g,l,h1,(hk g h2 h3).2,Nat.lt_of_lt_of_le h3 hs,h4.same (hk g h2 h3).1,h5.imp fun _ _ h=>Rd.mono hs hk h⟩
theorem RdV.mono {w w':World} {N N':Nat→Prop} (hs:w.heap.size≤w'.heap.size) (hk:∀b,N b→b<w.heap.size→w'.heap[b]?=w.heap[b]?∧N' b)
  {s:Sh} {v:Value} {c:C} (h:RdV w N s v c):RdV w' N' s v c:=let ⟨vs,h1,h2⟩:=h;⟨vs,h1.mono hs hk,h2⟩
theorem RdVs.mono {w w':World} {N N':Nat→Prop} (hs:w.heap.size≤w'.heap.size) (hk:∀b,N b→b<w.heap.size→w'.heap[b]?=w.heap[b]?∧N' b):
  ∀ {l:List (Sh×C)} {vs:List Value},RdVs w N l vs→RdVs w' N' l vs
 | [],_,h=>h
 |(_,_)::_,_,⟨v,r,h1,h2,h3⟩=>⟨v,r,h1,h2.mono hs hk,h3.mono hs hk⟩
/-- Presence: the tests that must have come out so. -/
abbrev Pres:=List (E×Bool)
def presTrue (ρ:List C) (p:Pres):Prop:=∀x∈p,(x.1.eval ρ).toBool=x.2
def presBd (n:Nat) (p:Pres):Bool:=p.all fun x=>x.1.bd n
def presSub (p q:Pres):Bool:=p.all fun x=>q.any fun y=>decide (x.1=y.1)&&x.2==y.2
inductive VC where
 |fail (why:Nat)
 |asrt (p:Pres) (e:E) (k:VC)
 |call (p:Pres) (f:Nat) (args:List (Sh×E)) (rets:List Sh) (k:VC)
 |cond (e:E) (a b:VC)
 |amb (e:E) (a b:VC)
 |ret (rs:List (Sh×E))
 |loop (init:List E) (body:VC)
 |back (lvl:Nat) (es:List E)
 |cut (n:Nat) (body rest:VC)
def evalArgs (ρ:List C) (l:List (Sh×E)):List (Sh×C):=l.map fun x=>(x.1,x.2.eval ρ)
def VC.holds (P:Program) (Post:List (Sh×C)→Prop):List (List C→Prop)→List C→VC→Prop
 |_,_,.fail _=>False
 |B,ρ,.asrt p e k=>(presTrue ρ p→(e.eval ρ).toBool=true)∧k.holds P Post B ρ
 |B,ρ,.call p f args rets k=>∃res:List C,res.length=rets.length∧(presTrue ρ p→PC P f (evalArgs ρ args) (rets.zip res))∧k.holds P Post B (ρ++res)
 |B,ρ,.cond e a b=>((e.eval ρ).toBool=true→a.holds P Post B ρ)∧((e.eval ρ).toBool=false→b.holds P Post B ρ)
 |B,ρ,.amb e a b=>((e.eval ρ).toList=[]→a.holds P Post B ρ)∧b.holds P Post B ρ
 |_,ρ,.ret rs=>Post (evalArgs ρ rs)
 |B,ρ,.loop init body=>∃(I:List C→Prop) (μ:List C→Nat),I (init.map (·.eval ρ))∧
   ∀vs,vs.length=init.length→I vs→body.holds P Post (B++ [fun vs'=>I vs'∧μ vs'<μ vs]) (ρ++vs)
 |B,ρ,.back lvl es=>(B.getD lvl fun _=>False) (es.map (·.eval ρ))
 |B,ρ,.cut n body rest=>∃I:List C→Prop,body.holds P Post (B++ [I]) ρ∧∀vs,vs.length=n→I vs→rest.holds P Post B (ρ++vs)
end Go.Vc

namespace Go.Vc

/-- What a temporary holds. -/
inductive SX where
 |none
 |dat (s:Sh) (e:E)
 |res (l:List (Sh×E))
 |resO (r:Nat) (n:E) (l:List (Sh×E))
 |full (r:Nat) (n:E)
 |view (r:Nat) (off n:E)
 |ref (r:Nat) (i:E) (fo:Nat) (s:Sh) (fld:Option Nat)
 |ptr (s:Sh) (e:E)
 |fn (f:Nat)
 |nilq (e:E)
 |meth (t:TypeId) (s:Sh) (name:String)
 |mpo (r:Nat)
 |ito (r:Nat)
 |nxt (s p:E)
 |okF
 deriving DecidableEq
structure TS where
 pres:Pres
 sx:SX
 deriving DecidableEq
/-- A block of the call's own. -/
inductive LB where
 |none
 |dead
 |row (s:Sh) (e:E)
 |box (cs:List SX)
 |mp (k:IntKind) (s:Sh) (e:E)
 |sit (s p:E)
 deriving DecidableEq
structure Blk where
 lb:LB
 froz:Bool
 pres:Pres
 deriving DecidableEq
structure SS where
 tmps:List TS
 blks:List Blk
 nv:Nat
 deriving DecidableEq
inductive Ob where
 |asrt (p:Pres) (e:E)
 |call (p:Pres) (f:Nat) (args:List (Sh×E)) (rets:List Sh)
def Ob.vars:Ob→Nat
 | .asrt .. =>0
 | .call _ _ _ rets=>rets.length
inductive Cmd where
 |frz (r:Nat)
 |put (r:Nat) (b:Blk)
structure Out where
 x:SX
 cmds:List Cmd:=[]
 nv:Nat:=0
 obs:List Ob:=[]
def shOf (P:Program):Nat→TypeId→Option Sh
 |0,_=>none
 |n+1,t=>
  match P.underlying t with
  |some .bool=>some .bool
  |some (.int k)=>some (.int k)
  |some .string=>some .str
  |some (.slice e)=>(shOf P n e).map .sl
  |some (.struct fs)=>fs.toList.foldr (fun f acc=>match shOf P n f.type,acc with|some a,some b=>some (.pair a b)|_,_=>none) (some .unit)
  |_=>none
/-- Types' shapes, to a depth. -/
def shp (P:Program) (t:TypeId):Option Sh:=shOf P 6 t
def unflatC:Sh→List Value→Option (E×List Value)
 | .int k,.int k' n::r=>if k=k' then some (.int n,r) else none
 | .bool,.bool b::r=>some (.bool b,r)
 | .str,.string s::r=>some (.str s.data.toList,r)
 | .sl _,.slice none 0 0::r=>some (.nilS,r)
 | .unit,r=>some (.nil,r)
 | .pair a b,vs=>if b.isAgg then match unflatC a vs with
  |some (x,r)=>match unflatC b r with
   |some (y,r')=>some (.cons x y,r')
   |none=>none
  |none=>none
  else none
 |_,_=>none
def constSX (s:Option Sh) (v:Value):Option SX:=
 match v,s with
 | .int k n,_=>some (.dat (.int k) (.int n))
 | .bool b,_=>some (.dat .bool (.bool b))
 | .string s,_=>some (.dat .str (.str s.data.toList))
 | .nilIface,_=>some (.dat .nili .nil)
 | .map none,_=>some .none
 | .slice none 0 0,some (.sl e)=>some (.dat (.sl e) .nilS)
 | .agg cs,some s=>if s.isAgg then match unflatC s cs.toList with|some (e,[])=>some (.dat s e)|_=>none else none
 |_,_=>none
/-- A block as those see it who do not ask whether it is frozen. -/
structure RB where
 lb:LB
 pres:Pres
abbrev Ev:=Pres→Operand→TypeId→Option SX
abbrev Rb:=Nat→Option RB
def rowOf (rb:Rb) (pc:Pres) (r:Nat):Option (Sh×E):=
 match rb r with
 |some ⟨.row s e,p⟩=>if presSub p pc then some (s,e) else none
 |_=>none
def mapOf (rb:Rb) (pc:Pres) (r:Nat):Option (IntKind×Sh×E):=
 match rb r with
 |some ⟨.mp k s e,p⟩=>if presSub p pc then some (k,s,e) else none
 |_=>none
/-- The empty slice, nil or not. -/
def noNil:E→E| .nilS=> .nil|e=>e
/-- As data: its shape, its expression, the row that must be frozen. -/
def datOf (rb:Rb) (pc:Pres):SX→Option (Sh×E×List Nat)
 | .dat s e=>some (s,e,[])
 | .full r _=>match rowOf rb pc r with|some (s,e)=>some (.sl s,noNil e,[r])|none=>none
 | .view r off n=>match rowOf rb pc r with|some (s,e)=>some (.sl s,.sub e off (.raw .add off n),[r])|none=>none
 | .fn f=>some (.fun_ f,.nil,[])
 | .mpo r=>match mapOf rb pc r with|some (k,s,e)=>some (.mp k s,e,[r])|none=>none
 |_=>none
def Sh.prim:Sh→Bool
 | .int _| .bool| .str| .unit| .nili| .fun_ _=>true
 | .sl _| .mp _ _=>false
 | .pair a b=>a.prim&&b.prim
 | .ifc _ _=>false
def mkHd:E→E| .cons h _=>h|e=> .hd e
def mkTl:E→E| .cons _ t=>t|e=> .tl e
def fldE (e:E):Nat→E|0=>mkHd e|j+1=>fldE (mkTl e) j
def flat:Sh→E→List SX
 | .unit,_=> []
 | .pair a b,e=>flat a (mkHd e)++flat b (mkTl e)
 |s,e=> [.dat s e]
def leafX (rb:Rb) (pc:Pres) (s:Sh):List SX→Option (E×List Nat×List SX)
 | []=>none
 |x::l=>match datOf rb pc x with
  |some (s',e,f)=>if s=s' then some (e,f,l) else none
  |none=>none
def unflat (rb:Rb) (pc:Pres):Sh→List SX→Option (E×List Nat×List SX)
 | .unit,l=>some (.nil,[],l)
 | .pair a b,l=>if b.isAgg then match unflat rb pc a l with
  |some (x,f,r)=>match unflat rb pc b r with
   |some (y,g,r')=>some (.cons x y,f++g,r')
   |none=>none
  |none=>none
  else none
 |s,cs=>leafX rb pc s cs
def isAggT (P:Program) (t:TypeId):Bool:=match P.underlying t with|some (.struct _)|some (.array _ _)=>true|_=>false
/-- The type's cells are as the shape says. -/
def fitsT (P:Program) (t:TypeId) (s:Sh):Bool:=(P.info? t).isSome&&(P.underlying t).isSome&&P.cellsOf t==s.size&&isAggT P t==s.isAgg
def elemT (P:Program) (t:TypeId):Option TypeId:=match P.underlying t with|some (.slice e)=>some e|_=>none
def zeroE (P:Program) (t:TypeId) (s:Sh):Option E:=
 match (P.info? t).bind (·.zero) with
 |some v=>match unflatC s v.cells.toList with|some (e,[])=>some e|_=>none
 |none=>none
/-- An obligation, unless it is plain. -/
def asrt (pc:Pres) (e:E):List Ob:=
 match e with
 | .cmp .geq (.int a) (.int b)=>if a≥b then [] else [.asrt pc e]
 | .cmp .neq (.int a) (.int b)=>if a !=b then [] else [.asrt pc e]
 | .cmp .leq (.int a) (.int b)=>if a≤b then [] else [.asrt pc e]
 |_=> [.asrt pc e]
def fieldOk (P:Program) (f:Field) (s:Sh) (off:Nat):Bool:=f.offset=off&&fitsT P f.type s
def eqFields (P:Program) (R:TypeId→Sh→Bool):List Field→Sh→Nat→Bool
 | [],.unit,_=>true
 |f::fs,.pair a b,off=>fieldOk P f a off&&f.name != "_" &&R f.type a&&eqFields P R fs b (off+a.size)
 |_,_,_=>false
/-- Values of the type are held against each other field by field, as the shape says. -/
def eqOk (P:Program):Nat→TypeId→Sh→Bool
 |0,_,_=>false
 |n+1,t,s=>
  match P.underlying t,s with
  |some .bool,.bool=>true
  |some (.int k),.int k'=>k=k'
  |some .string,.str=>true
  |some (.struct fs),s=> !P.stoodInHeld t&&eqFields P (eqOk P n) fs.toList s 0
  |_,_=>false
def binX (P:Program) (raw:Bool) (pc:Pres) (op:BinOp) (xt:TypeId) (s:Sh) (x:E) (s':Sh) (y:E):Option Out:=
 match s,s' with
 | .int k,.int k'=>
  match op with
  | .shl| .shr=>some {x:= .dat (.int k) (.bin op k x y),obs:=asrt pc (.cmp .geq y (.int 0))}
  |_=>
   if k≠k' then none else
   match op with
   | .add| .sub| .mul=>
    if raw&&k== .i64 then some {x:= .dat (.int k) (.raw op x y),obs:=[.asrt pc (.fits k (.raw op x y))]}
    else some {x:= .dat (.int k) (.bin op k x y)}
   | .quo| .rem=>some {x:= .dat (.int k) (.bin op k x y),obs:=asrt pc (.cmp .neq y (.int 0))}
   | .and| .or| .xor| .andNot=>some {x:= .dat (.int k) (.bin op k x y)}
   |_=>some {x:= .dat .bool (.cmp op x y)}
 | .str,.str=>
  match op with
  | .add=>some {x:= .dat .str (.cat x y),obs:=[.asrt pc (.fits .i64 (.raw .add (.slen x) (.slen y)))]}
  | .eql| .neq| .lss| .leq| .gtr| .geq=>some {x:= .dat .bool (.scmp op x y)}
  |_=>none
 | .bool,.bool=>
  match P.underlying xt,op with
  |some .bool,.eql=>some {x:= .dat .bool (.beq x y)}
  |some .bool,.neq=>some {x:= .dat .bool (.not (.beq x y))}
  |_,_=>none
 | .sl _,.sl _=>
  match op,y,P.underlying xt with
  | .eql,.nilS,some (.slice _)=>some {x:= .nilq x}
  |_,_,_=>none
 |s,s'=>
  if s=s'&&s.isAgg&&eqOk P 5 xt s&& !P.eqGuardType P.depth xt then match op with
   | .eql=>some {x:= .dat .bool (.deq s x y)}
   | .neq=>some {x:= .dat .bool (.not (.deq s x y))}
   |_=>none
  else none
def inBounds (pc:Pres) (i n:E):List Ob:=asrt pc (.cmp .geq i (.int 0))++asrt pc (.cmp .lss i n)
/-- The bounds of a slice expression. -/
def cutOb (pc:Pres) (lo hi n:E):List Ob:=asrt pc (.cmp .geq lo (.int 0))++(asrt pc (.cmp .leq lo hi)++asrt pc (.cmp .leq hi n))
def lenE:E→E
 | .nil=> .int 0
 | .nilS=> .int 0
 | .cons _ t=>match lenE t with| .int n=> .int (n+1)|_=> .len (.cons (.int 0) t)
 |e=> .len e
def argsX (ev:Ev) (rb:Rb) (pc:Pres):List Operand→List TypeId→Option (List (Sh×E)×List Nat)
 | [],_=>some ([],[])
 |x::xs,ts=>match (ev pc x (ts.headD 0)).bind (datOf rb pc),argsX ev rb pc xs ts.tail with
  |some (s,e,f),some (l,g)=>some ((s,e)::l,f++g)
  |_,_=>none
def retsT (P:Program) (t:TypeId):Option (List Sh):=
 match P.underlying t with
 |some (.tuple ts)=>ts.toList.mapM (shp P)
 |_=>(shp P t).map ([·])
def intOf?:Option SX→Option (IntKind×E)
 |some (.dat (.int k) e)=>some (k,e)
 |_=>none
def consE:List E→E| []=> .nil|e::l=> .cons e (consE l)
def fieldsOf:Sh→E→Option (List (Sh×E))
 | .unit,_=>some []
 | .pair a b,e=>(fieldsOf b (mkTl e)).map ((a,mkHd e)::·)
 |_,_=>none
/-- The parts of a struct's literal, in whatever order, each of its field's shape. -/
def buildX (ev:Ev) (rb:Rb) (pc:Pres) (ft:Nat→TypeId):List (Sh×E)→List (Nat×Operand)→Option (List (Sh×E)×List Nat)
 |l,[]=>some (l,[])
 |l,(i,o)::r=>match (ev pc o (ft i)).bind (datOf rb pc),l[i]? with
  |some (s,e,f),some (s',_)=>if s=s' then (buildX ev rb pc ft (l.set i (s,e)) r).map fun (l,g)=>(l,f++g) else none
  |_,_=>none
def elemsX (ev:Ev) (rb:Rb) (pc:Pres) (t:TypeId) (s:Sh):Nat→List (Nat×Operand)→Option (E×List Nat)
 |_,[]=>some (.nil,[])
 |k,(i,o)::r=>if i≠k then none else match (ev pc o t).bind (datOf rb pc),elemsX ev rb pc t s (k+1) r with
  |some (s',e,f),some (es,g)=>if s=s' then some (.cons e es,f++g) else none
  |_,_=>none
def pickX (c:Option SX) (a b:E→Option SX):Option Out:=
 match c with
 |some (.dat .bool ec)=>match a ec,b ec with
  |some (.dat s ea),some (.dat s' eb)=>if s=s' then some {x:= .dat s (.ite ec ea eb)} else none
  |_,_=>none
 |_=>none
def unX (op:UnOp) (x:Option SX):Option Out:=
 match op,x with
 | .not,some (.dat .bool e)=>some {x:= .dat .bool (.not e)}
 | .neg,some (.dat (.int k) e)=>some {x:= .dat (.int k) (.bin .sub k (.int 0) e)}
 | .xor,some (.dat (.int k) e)=>some {x:= .dat (.int k) (.xorK k e)}
 |_,_=>none
def convX (P:Program) (rb:Rb) (pc:Pres) (src dst:TypeId) (x:Option SX):Option Out:=
 match P.underlying src,P.underlying dst,x with
 |some _,some (.int k),some (.dat (.int _) e)=>some {x:= .dat (.int k) (.conv k e)}
 |some .string,some .string,some (.dat .str e)=>some {x:= .dat .str e}
 |some (.slice t),some .string,some x=>match P.underlying t,datOf rb pc x with
  |some (.int .u8),some (.sl (.int .u8),e,_)=>some {x:= .dat .str (.toStr e)}
  |_,_=>none
 |some .string,some (.slice t),some (.dat .str e)=>match P.underlying t with
  |some (.int .u8)=>some {x:= .dat (.sl (.int .u8)) (.ofStr e),obs:=[.asrt pc (.fits .i64 (.slen e))]}
  |_=>none
 |_,_,_=>none
def fieldX (P:Program) (t:TypeId) (j:Nat) (x:Option SX):Option Out:=
 match x,P.underlying t with
 |some (.dat s e),some (.struct fs)=>match s.fld j,fs[j]? with
  |some (s',off),some f=>if fieldOk P f s' off then some {x:= .dat s' (fldE e j)} else none
  |_,_=>none
 |_,_=>none
/-- The struct's fields lie as the shape says. -/
def structOk (P:Program):List Field→Sh→Nat→Bool
 | [],.unit,_=>true
 |f::fs,.pair a b,off=>fieldOk P f a off&&structOk P fs b (off+a.size)
 |_,_,_=>false
def buildSX (P:Program) (ev:Ev) (rb:Rb) (pc:Pres) (t:TypeId) (parts:List (Nat×Operand)):Option Out:=
 match shp P t,P.underlying t with
 |some s,some (.struct fs)=>
  if structOk P fs.toList s 0&&fitsT P t s then
   match (zeroE P t s).bind (fieldsOf s) with
   |some l=>match buildX ev rb pc (fun j=>((fs[j]?).map (·.type)).getD 0) l parts with
    |some (l,f)=>some {x:= .dat s (consE (l.map (·.2))),cmds:=f.map .frz}
    |none=>none
   |none=>none
  else none
 |_,_=>none
def buildSlX (P:Program) (ev:Ev) (rb:Rb) (pc:Pres) (t:TypeId) (len:Nat) (parts:List (Nat×Operand)):Option Out:=
 match elemT P t with
 |none=>none
 |some et=>match shp P et with
  |none=>none
  |some s=>
   if fitsT P et s&&s.size !=0&&parts.length=len&&len*s.size≤2^24&&((P.info? et).bind (·.zero)).isSome then
    match elemsX ev rb pc et s 0 parts with
    |some (e,f)=>some {x:= .dat (.sl s) e,cmds:=f.map .frz}
    |none=>none
   else none
def isNew (rb:Rb) (d:Nat):Bool:=match rb d with|some ⟨.none,_⟩=>true|_=>false
/-- A literal that is written to later: a row of the call's own. -/
def rowLitX (P:Program) (ev:Ev) (rb:Rb) (pc:Pres) (t:TypeId) (len:Nat) (dst:Option Tmp) (parts:List (Nat×Operand)):Option Out:=
 match elemT P t,dst with
 |some et,some d=>match shp P et with
  |none=>none
  |some s=>
   if isNew rb d&&fitsT P et s&&s.size !=0&&parts.length=len&&len*s.size≤2^24&&((P.info? et).bind (·.zero)).isSome then
    match elemsX ev rb pc et s 0 parts with
    |some (e,[])=>some {x:= .full d (.int len),cmds:=[.put d ⟨.row s e,false,pc⟩]}
    |_=>none
   else none
 |_,_=>none
def allocX (P:Program) (rb:Rb) (pc:Pres) (t:TypeId) (dst:Option Tmp):Option Out:=
 match shp P t,dst with
 |some s,some d=>match zeroE P t s with
  |some e=>if isNew rb d&&fitsT P t s&&s.size !=0 then some {x:= .ref d (.int 0) 0 s none,cmds:=[.put d ⟨.box (flat s e),false,pc⟩]} else none
  |none=>none
 |_,_=>none
def boxX (P:Program) (rb:Rb) (pc:Pres) (t:TypeId) (dst:Option Tmp) (x:Option SX):Option Out:=
 match x,dst with
 |some (.dat s e),some d=>if isNew rb d&&fitsT P t s then some {x:= .ref d (.int 0) 0 s none,cmds:=[.put d ⟨.box (flat s e),false,pc⟩]} else none
 |some (.full r n),some d=>match rowOf rb pc r with
  |some (s,_)=>if isNew rb d&&fitsT P t (.sl s) then some {x:= .ref d (.int 0) 0 (.sl s) none,cmds:=[.put d ⟨.box [.full r n],false,pc⟩]} else none
  |none=>none
 |_,_=>none
def loadX (P:Program) (rb:Rb) (pc:Pres) (t:TypeId) (a:Option SX):Option Out:=
 match a with
 |some (.ptr s e)=>if fitsT P t s then some {x:= .dat s e} else none
 |some (.ref r i fo s fld)=>
  if fitsT P t s then match rb r with
   |some ⟨.row es e,p⟩=>
    if presSub p pc then match fld with
     |none=>if s=es then some {x:= .dat s (.idx e i)} else none
     |some j=>if es.fld j=some (s,fo) then some {x:= .dat s (fldE (.idx e i) j)} else none
    else none
   |some ⟨.box cs,p⟩=>
    if presSub p pc then
     if s.isAgg then match unflat rb pc s (cs.drop fo) with
      |some (e,f,_)=>some {x:= .dat s e,cmds:=f.map .frz}
      |none=>none
     else match cs[fo]? with
      |some x=>some {x}
      |none=>none
    else none
   |_=>none
  else none
 |_=>none
def liveR (rb:Rb) (pc:Pres) (r:Nat):Bool:=match rb r with|some ⟨.row ..,p⟩|some ⟨.box _,p⟩=>presSub p pc|_=>false
def nilX (rb:Rb) (pc:Pres) (x:Option SX):Option Out:=
 match x with
 |some (.ref r i fo s fld)=>if liveR rb pc r then some {x:= .ref r i fo s fld} else none
 |some (.ptr s e)=>some {x:= .ptr s e}
 |some (.fn f)=>some {x:= .fn f}
 |_=>none
def faddrOk (P:Program) (f:Field) (s:Sh) (off:Nat):Bool:=f.offset=off&&s.size !=0&&(P.info? f.type).isSome&&P.cellsOf f.type=s.size
def faddrX (P:Program) (rb:Rb) (pc:Pres) (st:TypeId) (j:Nat) (x:Option SX):Option Out:=
 match x,P.underlying st with
 |some (.ref r i fo s none),some (.struct fs)=>match s.fld j,fs[j]? with
  |some (s',off),some f=>if faddrOk P f s' off&&liveR rb pc r then match rb r with
    |some ⟨.row ..,_⟩=>if fo=0 then some {x:= .ref r i off s' (some j)} else none
    |some ⟨.box ..,_⟩=>some {x:= .ref r i (fo+off) s' none}
    |_=>none
   else none
  |_,_=>none
 |some (.ptr s e),some (.struct fs)=>match s.fld j,fs[j]? with
  |some (s',off),some f=>if faddrOk P f s' off then some {x:= .ptr s' (fldE e j)} else none
  |_,_=>none
 |_,_=>none
def elemOk (P:Program) (et:TypeId) (s:Sh):Bool:=(P.info? et).isSome&&P.cellsOf et=s.size
def iaddrX (P:Program) (rb:Rb) (pc:Pres) (t:TypeId) (x:Option SX) (i:Option (IntKind×E)):Option Out:=
 match elemT P t,x,i with
 |some et,some (.dat (.sl s) e),some (_,i)=>if elemOk P et s then some {x:= .ptr s (.idx e i),obs:=inBounds pc i (lenE e)} else none
 |some et,some (.full r n),some (_,i)=>match rowOf rb pc r with
  |some (s,_)=>if elemOk P et s then some {x:= .ref r i 0 s none,obs:=inBounds pc i n} else none
  |none=>none
 |some et,some (.view r off n),some (_,i)=>match rowOf rb pc r with
  |some (s,_)=>if elemOk P et s then some {x:= .ref r (.raw .add off i) 0 s none,obs:=inBounds pc i n} else none
  |none=>none
 |_,_,_=>none
def indexX (P:Program) (pc:Pres) (t:TypeId) (x:Option SX) (i:Option (IntKind×E)):Option Out:=
 match P.underlying t,x,i with
 |some .string,some (.dat .str e),some (_,i)=>some {x:= .dat (.int .u8) (.sidx e i),obs:=inBounds pc i (.slen e)}
 |_,_,_=>none
def boundX (ev:Ev) (pc:Pres) (d:E) (o:Option Operand):Option E:=
 match o with
 |none=>some d
 |some o=>match intOf? (ev pc o 0) with|some (_,e)=>some e|none=>none
def sliceX (P:Program) (ev:Ev) (rb:Rb) (pc:Pres) (t:TypeId) (x:Option SX) (lo hi:Option Operand):Option Out:=
 match P.underlying t,x,boundX ev pc (.int 0) lo with
 |some .string,some (.dat .str e),some lo=>match boundX ev pc (.slen e) hi with
  |some hi=>some {x:= .dat .str (.ssub e lo hi),obs:=cutOb pc lo hi (.slen e)}
  |none=>none
 |some (.slice et),some (.dat (.sl s) e),some lo=>if elemOk P et s then match boundX ev pc (lenE e) hi with
   |some hi=>some {x:= .dat (.sl s) (.sub e lo hi),obs:=cutOb pc lo hi (lenE e)}
   |none=>none
  else none
 |some (.slice et),some (.full r n),some lo=>match rowOf rb pc r,boundX ev pc n hi with
  |some (s,_),some hi=>if elemOk P et s then some {x:= .view r lo (.raw .sub hi lo),obs:=cutOb pc lo hi n} else none
  |_,_=>none
 |some (.slice et),some (.view r off n),some lo=>match rowOf rb pc r,boundX ev pc n hi with
  |some (s,_),some hi=>if elemOk P et s then some {x:= .view r (.raw .add off lo) (.raw .sub hi lo),obs:=cutOb pc lo hi n} else none
  |_,_=>none
 |_,_,_=>none
def makeX (P:Program) (rb:Rb) (pc:Pres) (t:TypeId) (dst:Option Tmp) (l c:Option (IntKind×E)):Option Out:=
 match elemT P t,l,c,dst with
 |some et,some (_,l),some (_,c),some d=>match shp P et with
  |none=>none
  |some s=>match zeroE P et s with
   |some z=>if isNew rb d&&fitsT P et s&&s.size !=0&&P.bytesOf et !=0 then some {x:= .full d l,cmds:=[.put d ⟨.row s (.rep l z),false,pc⟩],obs:=asrt pc (.cmp .geq l (.int 0))++(asrt pc (.cmp .leq l c)++asrt pc (.cmp .leq (.raw .mul (.int (P.bytesOf et)) c) (.int 281474976710656)))} else none
   |none=>none
 |_,_,_,_=>none
def lenX (P:Program) (rb:Rb) (pc:Pres) (t:TypeId) (x:Option SX):Option Out:=
 match P.underlying t,x with
 |some .string,some (.dat .str e)=>some {x:= .dat (.int .i64) (.slen e)}
 |some (.slice _),some (.dat (.sl _) e)=>some {x:= .dat (.int .i64) (lenE e)}
 |some (.slice _),some (.full r n)=>match rowOf rb pc r with|some _=>some {x:= .dat (.int .i64) n}|none=>none
 |some (.slice _),some (.view r _ n)=>match rowOf rb pc r with|some _=>some {x:= .dat (.int .i64) n}|none=>none
 |_,_=>none
def mmX (f:E→E→E) (x y:Option SX):Option Out:=
 match x,y with
 |some (.dat (.int k) a),some (.dat (.int k') b)=>if k=k' then some {x:= .dat (.int k) (f a b)} else none
 |_,_=>none
def retVars (nv:Nat):List Sh→List (Sh×E)
 | []=> []
 |s::l=>(s,.var nv)::retVars (nv+1) l
def resX:List (Sh×E)→SX
 | [(s,e)]=> .dat s e
 |l=> .res l
/-- With nil for each slice. -/
def nilled:Sh→E→E
 | .sl _,_=> .nilS
 | .unit,_=> .nil
 | .pair a b,e=> .cons (nilled a (mkHd e)) (nilled b (mkTl e))
 |_,e=>e
def callN (P:Program) (ev:Ev) (rb:Rb) (pc:Pres) (nv:Nat) (t:TypeId) (f:Nat) (args:List Operand) (ts:List TypeId):Option Out:=
 match argsX ev rb pc args ts,retsT P t with
 |some (l,_),some [s]=>some {x:= .dat s (nilled s (.var nv)),nv:=1,obs:=[.call pc (3000000+f) l [s]]}
 |_,_=>none
def callX (P:Program) (rets:Option (List Sh)) (ev:Ev) (rb:Rb) (pc:Pres) (nv:Nat) (f:Nat) (args:List Operand) (ts:List TypeId):Option Out:=
 match argsX ev rb pc args ts,rets with
 |some (l,frz),some rets=>if f<1000000 then some {x:=resX (retVars nv rets),cmds:=if rets.all Sh.prim then [] else frz.map .frz,nv:=rets.length,obs:=[.call pc f l rets]} else none
 |_,_=>none
def builtinX (P:Program) (ev:Ev) (rb:Rb) (pc:Pres) (b:Builtin) (args:List Operand) (ts:Array TypeId):Option Out:=
 match b,args,ts.toList with
 | .len,[x],[t]=>lenX P rb pc t (ev pc x t)
 | .min,[x,y],_=>mmX .minI (ev pc x (ts.getD 0 0)) (ev pc y (ts.getD 0 0))
 | .max,[x,y],_=>mmX .maxI (ev pc x (ts.getD 0 0)) (ev pc y (ts.getD 0 0))
 |_,_,_=>none
/-- A test that has come out otherwise: what is under it isn't done. -/
def presFalse (p:Pres):Bool:=p.any fun x=>match x.1 with| .bool b=>b !=x.2|_=>false
/-- The method of a type: a function that is handed the value itself. -/
def methFn (P:Program) (t:TypeId) (name:String):Option FuncId:=
 match P.info? t,P.underlying t with
 |some i,some d=>match i.methods.find? (·.name==name) with
  |some m=>match m.func with
   |some (f,false)=>if m.path.toList.isEmpty&& !(match d with| .pointer _=>true|_=>false) then some f else none
   |_=>none
  |none=>none
 |_,_=>none
/-- An expression of which nothing is said of nil. -/
def dull (e:E):E:= .ite (.bool true) e e
/-- Has a type all methods that are wanted? -/
def hasAll (P:Program) (want:Array (String×TypeId)) (t:TypeId):Option Bool:=(P.info? t).map fun i=>((want.toList.filter fun x=> !i.methods.any fun m=>m.name==x.1&&m.sig==x.2).map (·.1)).isEmpty
/-- New plain operations: interface values of a known type; what a step through a string hands back. -/
def preX (P:Program) (o:Oper) (pc:Pres) (ev:Ev):Option Out:=
 match o.op with
 | .makeInterface t x=>match ev pc x t,P.underlying t with
  |some (.dat s e),some d=>if (match d with| .interface _=>true|_=>false) then none else some {x:= .dat (.ifc t s) e}
  |_,_=>none
 | .makeFunc (.method name) first captured=>match first.toList,captured.toList with
  | [x],[]=>match ev pc x 0 with|some (.dat (.ifc t s) _)=>some {x:= .meth t s name}|_=>none
  |_,_=>none
 | .nilCheck x=>match ev pc x 0 with
  |some (.meth t s name)=>if (methFn P t name).isSome then some {x:= .meth t s name} else none
  |_=>none
 | .extract t i=>match ev pc t 0,i with
  |some (.nxt s p),0=>some {x:= .dat .bool (.cmp .lss p (.slen s))}
  |some (.nxt s p),1=>some {x:= .dat (.int .i64) p,obs:=[.asrt pc (.cmp .lss p (.slen s))]}
  |some (.nxt s p),2=>some {x:= .dat (.int .i32) (.drune s p),obs:=[.asrt pc (.cmp .lss p (.slen s))]}
  |some .okF,0=>some {x:= .none}
  |some .okF,1=>some {x:= .dat .bool (.bool false)}
  |_,_=>none
 | .typeAssert x _ ty ok=>match ev pc x 0,P.underlying ty with
  |some (.dat (.ifc t s) e),some (.interface want)=>match hasAll P want t with
   |some true=>if ok then some {x:= .res [(.ifc t s,e),(.bool,.bool true)]} else some {x:= .dat (.ifc t s) e}
   |some false=>if ok&&((P.info? ty).bind (·.zero)).isSome then some {x:= .okF} else none
   |none=>none
  |some (.dat (.ifc t s) e),some _=>
   if t=ty then (if ok then some {x:= .res [(s,dull e),(.bool,.bool true)]} else some {x:= .dat s (dull e)})
   else if ok&&((P.info? ty).bind (·.zero)).isSome then some {x:= .okF} else none
  |some (.dat .nili _),some _=>if ok&&((P.info? ty).bind (·.zero)).isSome then some {x:= .okF} else none
  |_,_=>none
 | .binOp op xt x y _=>match op,ev pc x xt,y,P.underlying xt with
  | .eql,some (.dat (.ifc _ _) _),.const .nilIface,some (.interface _)=>some {x:= .dat .bool (.bool false)}
  | .neq,some (.dat (.ifc _ _) _),.const .nilIface,some (.interface _)=>some {x:= .dat .bool (.bool true)}
  | .eql,some (.dat .nili _),.const .nilIface,some (.interface _)=>some {x:= .dat .bool (.bool true)}
  | .neq,some (.dat .nili _),.const .nilIface,some (.interface _)=>some {x:= .dat .bool (.bool false)}
  |_,_,_,_=>none
 | .pick c a b=>match ev pc c 0 with
  |some (.dat .bool (.bool true))=>match ev pc a o.type with|some x=>some {x}|none=>none
  |some (.dat .bool (.bool false))=>match ev pc b o.type with|some x=>some {x}|none=>none
  |_=>none
 |_=>none
structure Cfg where
 raw:Bool
 rows:List Nat
 grow:List Nat:=[]
 fresh:List Nat:=[]
 nils:List Nat:=[]
 keeps:List Nat:=[]
 rets:List (Nat×List Sh):=[]
 marks:List Nat:=[]
 cuts:List Nat:=[]
def Cfg.owns (cfg:Cfg) (f:Nat):Bool:=cfg.grow.contains f||cfg.fresh.contains f
def isRowLit (cfg:Cfg) (o:Oper) (len:Nat):Bool:=len=0||(match o.dst with|some d=>cfg.rows.contains d|none=>false)
/-- The shapes of what a call hands back: by its type, or as told. -/
def Cfg.retsOf (cfg:Cfg) (P:Program) (f:Nat) (t:TypeId):Option (List Sh):=
 match cfg.rets.find? (·.1==f) with
 |some (_,l)=>some l
 |none=>retsT P t
/-- A call of a function that a value tells: a method of an interface value, with the value ahead; a function value. -/
def callV (P:Program) (cfg:Cfg) (ev:Ev) (rb:Rb) (pc:Pres) (nv:Nat) (t:TypeId) (f:Nat) (pre:List (Sh×E)) (args:List Operand) (ts:List TypeId):Option Out:=
 match argsX ev rb pc args ts,cfg.retsOf P f t with
 |some (l,frz),some rets=>if f<1000000 then some {x:=resX (retVars nv rets),cmds:=if rets.all Sh.prim then [] else frz.map .frz,nv:=rets.length,obs:=[.call pc f (pre++l) rets]} else none
 |_,_=>none
def mapT (P:Program) (t:TypeId):Option (IntKind×TypeId):=
 match P.underlying t with
 |some (.map k e)=>match P.underlying k with|some (.int kk)=>some (kk,e)|_=>none
 |_=>none
def mapRd (rb:Rb) (pc:Pres):Option SX→Option (IntKind×Sh×E)
 |some (.dat (.mp k s) e)=>some (k,s,e)
 |some (.mpo r)=>mapOf rb pc r
 |_=>none
/-- The zero of a map's values. -/
def zeroL (P:Program) (t:TypeId) (s:Sh):Option E:=
 match (P.info? t).bind (·.zero) with
 |some v=>match unflatC s [v] with|some (e,[])=>some e|_=>none
 |none=>none
/-- More operations that look at blocks, make some, or call. -/
def opy (P:Program) (cfg:Cfg) (o:Oper) (pc:Pres) (ev:Ev) (rb:Rb) (nv:Nat):Option Out:=
 match o.op with
 | .call {callee:= .invoke x name,args,argTypes}=>match ev pc x 0 with
  |some (.dat (.ifc t s) e)=>match methFn P t name with
   |some f=>callV P cfg ev rb pc nv o.type f [(s,e)] args.toList argTypes.toList
   |none=>none
  |_=>none
 | .call {callee:= .value (.func _),.. }=>none
 | .call {callee:= .value x,args,argTypes}=>match ev pc x 0 with
  |some (.dat (.fun_ f) _)=>callV P cfg ev rb pc nv o.type f [] args.toList argTypes.toList
  |_=>none
 | .lookup t m x ok=>match mapT P t,intOf? (ev pc x 0),mapRd rb pc (ev pc m t) with
  |some (kk,et),some (k',ek),some (kk',s,e)=>
   if kk=k'&&kk=kk'&& !s.isAgg then match zeroL P et s with
    |some z=>if ok then some {x:= .res [(s,dull (.mget e ek z)),(.bool,.mhas e ek)]} else some {x:= .dat s (dull (.mget e ek z))}
    |none=>none
   else none
  |_,_,_=>none
 | .makeMap t none=>match mapT P t,o.dst with
  |some (kk,et),some d=>match shp P et with
   |some s=>if isNew rb d&& !s.isAgg then some {x:= .mpo d,cmds:=[.put d ⟨.mp kk s .nil,false,pc⟩]} else none
   |none=>none
  |_,_=>none
 | .range t x=>match P.underlying t,ev pc x t,o.dst with
  |some .string,some (.dat .str e),some d=>if isNew rb d then some {x:= .ito d,cmds:=[.put d ⟨.sit e (.int 0),false,pc⟩]} else none
  |_,_,_=>none
 |_=>none
/-- One operation that does not write to blocks that are there. -/
def opx0 (P:Program) (cfg:Cfg) (o:Oper) (pc:Pres) (ev:Ev) (rb:Rb) (nv:Nat):Option Out:=
 match o.op with
 | .move x| .assign x=>match ev pc x o.type with|some x=>some {x}|none=>none
 | .pick c a b=>pickX (ev pc c 0) (fun ec=>ev (pc++ [(ec,true)]) a o.type) (fun ec=>ev (pc++ [(ec,false)]) b o.type)
 | .binOp op xt x y yt=>
  match ev pc x xt,ev pc y yt with
  |some (.dat s ex),some (.dat s' ey)=>binX P cfg.raw pc op xt s ex s' ey
  |_,_=>none
 | .unOp op _ x=>unX op (ev pc x o.type)
 | .convert src dst x=>convX P rb pc src dst (ev pc x src)
 | .extract t i=>match ev pc t 0 with
  |some (.res l)=>match l[i]? with|some (s,e)=>some {x:= .dat s e}|none=>none
  |some (.resO r n l)=>match i with
   |0=>some {x:= .full r n}
   |i+1=>match l[i]? with|some (s,e)=>some {x:= .dat s e}|none=>none
  |_=>none
 | .field t x j=>fieldX P t j (ev pc x t)
 | .build t parts=>buildSX P ev rb pc t parts.toList
 | .buildSlice t len parts=>if isRowLit cfg o len then rowLitX P ev rb pc t len o.dst parts.toList else buildSlX P ev rb pc t len parts.toList
 | .alloc t=>allocX P rb pc t o.dst
 | .box t x=>boxX P rb pc t o.dst (ev pc x t)
 | .load t a=>loadX P rb pc t (ev pc a 0)
 | .nilCheck x=>nilX rb pc (ev pc x 0)
 | .fieldAddr st x j=>faddrX P rb pc st j (ev pc x 0)
 | .indexAddr t x i=>iaddrX P rb pc t (ev pc x t) (intOf? (ev pc i 0))
 | .index t x i=>indexX P pc t (ev pc x t) (intOf? (ev pc i 0))
 | .slice t x lo hi none=>sliceX P ev rb pc t (ev pc x t) lo hi
 | .makeSlice t l c=>makeX P rb pc t o.dst (intOf? (ev pc l 0)) (intOf? (ev pc c 0))
 | .call {callee:= .builtin b,args,argTypes}=>builtinX P ev rb pc b args.toList argTypes
 | .call {callee:= .value (.func f),args,argTypes}=>if cfg.owns f then none else if cfg.nils.contains f then callN P ev rb pc nv o.type f args.toList argTypes.toList else callX P (cfg.retsOf P f o.type) ev rb pc nv f args.toList argTypes.toList
 |_=>opy P cfg o pc ev rb nv
/-- One operation: nothing, under a test that has come out otherwise; else a plain one, or another one. -/
def opx (P:Program) (cfg:Cfg) (o:Oper) (pc:Pres) (ev:Ev) (rb:Rb) (nv:Nat):Option Out:=
 if presFalse pc then some {x:= .none} else match preX P o pc ev with
 |some out=>some out
 |none=>opx0 P cfg o pc ev rb nv
def ownRow (bs:List Blk) (r:Nat):Option (Sh×E):=match bs[r]? with|some ⟨.row s e,false,[]⟩=>some (s,e)|_=>none
def rbOf (bs:List Blk):Rb:=fun r=>match bs[r]? with|some b=>some ⟨b.lb,b.pres⟩|none=>none
def frzAll (f:List Nat) (bs:List Blk):List Blk:=f.foldl (fun bs r=>bs.modify r fun b=> {b with froz:=true}) bs
def storeRowX (bs:List Blk) (r:Nat) (es:Sh) (e i:E) (fo:Nat) (s:Sh) (fld:Option Nat) (x:SX):Option (List Blk):=
 match datOf (rbOf bs) [] x with
 |some (s',ex,f)=>
  if s=s'&& !f.contains r then
   match fld with
   |none=>if s=es then some ((frzAll f bs).set r ⟨.row es (.set e i ex),false,[]⟩) else none
   |some j=>if es.fld j=some (s,fo) then some ((frzAll f bs).set r ⟨.row es (.set e i (.fset j (.idx e i) ex)),false,[]⟩) else none
  else none
 |none=>none
def storeBoxX (bs:List Blk) (r:Nat) (cs:List SX) (fo:Nat) (s:Sh) (x:SX):Option (List Blk):=
 match x with
 | .dat s' ex=>if s=s'&&fo+s.size≤cs.length then some (bs.set r ⟨.box (cs.take fo++(flat s ex++cs.drop (fo+s.size))),false,[]⟩) else none
 | .full r' n=>match rowOf (rbOf bs) [] r' with
  |some (es,_)=>if s= .sl es&&fo<cs.length then some (bs.set r ⟨.box (cs.set fo (.full r' n)),false,[]⟩) else none
  |none=>none
 |_=>none
def storeX (P:Program) (bs:List Blk) (t:TypeId) (a x:Option SX):Option (List Blk):=
 match a,x with
 |some (.ref r i fo s fld),some x=>if fitsT P t s then match bs[r]? with
   |some ⟨.row es e,false,[]⟩=>storeRowX bs r es e i fo s fld x
   |some ⟨.box cs,false,[]⟩=>storeBoxX bs r cs fo s x
   |_=>none
  else none
 |_,_=>none
/-- What is appended or copied. -/
def srcX (P:Program) (bs:List Blk) (t:TypeId) (x:SX):Option (Sh×E×List Nat):=
 match x,P.underlying t with
 | .dat .str e,some .string=>some (.int .u8,.ofStr e,[])
 |x,some (.slice _)=>match datOf (rbOf bs) [] x with|some (.sl s,e,f)=>some (s,e,f)|_=>none
 |_,_=>none
/-- What is appended: a slice, a string, or so many zeros (if there are fewer than none: too many). -/
def srcA (P:Program) (bs:List Blk) (et t:TypeId) (x:SX):Option (Sh×E×List Nat):=
 match x,P.underlying t with
 | .dat (.int _) e,some (.int _)=>match shp P et with
  |some s=>match zeroE P et s with
   |some z=>some (s,.rep (.ite (.cmp .geq e (.int 0)) e (.int 1152921504606846976)) z,[])
   |none=>none
  |none=>none
 |x,_=>srcX P bs t x
def isFree (bs:List Blk) (d:Nat):Bool:=match bs[d]? with|some ⟨.none,_,_⟩=>true|_=>false
def appendX (P:Program) (keep:Bool) (bs:List Blk) (ts:Array TypeId) (d:Nat) (a b:Option SX):Option (SX×List Blk×List Ob):=
 match elemT P (ts.getD 0 0),a,b with
 |some et,some sa,some sb=>
  match srcA P bs et (ts.getD 1 0) sb with
  |none=>none
  |some (s,m,f)=>
   if ts.size=2&&(zeroE P et s).isSome&&fitsT P et s&&s.size !=0&&P.bytesOf et !=0 then
    match sa with
    | .dat (.sl s') .nilS=>if s=s'&&isFree bs d then some (.full d (lenE m),bs.set d ⟨.row s m,false,[]⟩,[.asrt [] (.cmp .leq (.raw .mul (.len m) (.int (P.bytesOf et))) (.int 140737488355328))]) else none
    | .full r n=>match ownRow bs r with
     |some (s',e)=>
      if keep then
       if s=s'&& !f.contains r then
        some (.dat (.sl s) (.app e m),bs.set r ⟨.row s e,true,[]⟩,[.asrt [] (.cmp .leq (.raw .mul (.raw .add n (.len m)) (.int (P.bytesOf et))) (.int 140737488355328))])
       else none
      else if s=s'&& !f.contains r&&isFree bs d then
       some (.full d (.raw .add n (lenE m)),(bs.set r ⟨.dead,false,[]⟩).set d ⟨.row s (.app e m),false,[]⟩,[.asrt [] (.cmp .leq (.raw .mul (.raw .add n (.len m)) (.int (P.bytesOf et))) (.int 140737488355328))])
      else none
     |none=>none
    |_=>none
   else none
 |_,_,_=>none
def dstX:SX→Option (Nat×E×E)
 | .full r n=>some (r,.int 0,n)
 | .view r off n=>some (r,off,n)
 |_=>none
def copyX (P:Program) (bs:List Blk) (ts:Array TypeId) (a b:Option SX):Option (SX×List Blk):=
 match elemT P (ts.getD 0 0),a,b with
 |some et,some sa,some sb=>
  match srcX P bs (ts.getD 1 0) sb,dstX sa with
  |some (s,m,_),some (r,off,n)=>match ownRow bs r with
   |some (s',e)=>if s=s'&&fitsT P et s&&ts.size=2 then
     some (.dat (.int .i64) (.minI (lenE m) n),bs.set r ⟨.row s (.splice e off (.sub m (.int 0) n)),false,[]⟩)
    else none
   |none=>none
  |_,_=>none
 |_,_,_=>none
/-- A literal of bytes that a constant text is: its row is marked, and is data. -/
def markX (P:Program) (bs:List Blk) (t:TypeId) (x:Option SX):Option (Sh×E×Nat):=
 match elemT P t,x with
 |some et,some (.full r _)=>match P.underlying et,ownRow bs r with
  |some (.int .u8),some (s,.cons x y)=>some (s,.cons x y,r)
  |_,_=>none
 |_,_=>none
/-- A map of the call's own, with a key set. -/
def mputX (P:Program) (bs:List Blk) (t:TypeId) (m:Option SX) (k:Option (IntKind×E)) (x:Option SX):Option (Nat×Blk):=
 match mapT P t,m,k,x with
 |some (kk,_),some (.mpo r),some (k',ek),some (.dat s' ex)=>match bs[r]? with
  |some ⟨.mp kk' s e,false,[]⟩=>if kk=k'&&kk=kk'&&s=s'&& !s.isAgg then some (r,⟨.mp kk s (.mput e ek ex),false,[]⟩) else none
  |_=>none
 |_,_,_,_=>none
/-- A step through a string. -/
def nextX (bs:List Blk) (it:Option SX):Option (SX×Nat×Blk):=
 match it with
 |some (.ito r)=>match bs[r]? with
  |some ⟨.sit s p,false,[]⟩=>some (.nxt s p,r,⟨.sit s (.ite (.cmp .lss p (.slen s)) (.raw .add p (.dwid s p)) p),false,[]⟩)
  |_=>none
 |_=>none
/-- One operation that writes to a block of the call's own: the new blocks. -/
def Cfg.keep (cfg:Cfg) (o:Oper):Bool:=match o.dst with|some d=>cfg.keeps.contains d|none=>false
def opw (P:Program) (cfg:Cfg) (o:Oper) (ev:Ev) (bs:List Blk):Option (SX×List Blk×List Ob):=
 match o.op with
 | .store t a x=>match storeX P bs t (ev [] a 0) (ev [] x t) with|some bs=>some (.none,bs,[])|none=>none
 | .call {callee:= .builtin .append,args,argTypes}=>match args.toList,o.dst with
  | [a,b],some d=>appendX P (cfg.keep o) bs argTypes d (ev [] a (argTypes.getD 0 0)) (ev [] b (argTypes.getD 1 0))
  |_,_=>none
 | .call {callee:= .builtin .copy,args,argTypes}=>match args.toList with
  | [a,b]=>match copyX P bs argTypes (ev [] a (argTypes.getD 0 0)) (ev [] b (argTypes.getD 1 0)) with|some (x,bs)=>some (x,bs,[])|none=>none
  |_=>none
 | .convert src dst x=>if src=dst then match markX P bs src (ev [] x src) with|some (s,e,r)=>some (.dat (.sl s) e,bs.set r ⟨.dead,false,[]⟩,[])|none=>none else none
 | .mapUpdate t m k x=>match mputX P bs t (ev [] m t) (intOf? (ev [] k 0)) (ev [] x 0) with|some (r,b)=>some (.none,bs.set r b,[])|none=>none
 | .next it true=>match nextX bs (ev [] it 0) with|some (x,r,b)=>some (x,bs.set r b,[])|none=>none
 |_=>none
/-! Calls that are handed, or hand back, rows of the caller's own. -/
def ownRes (d nv:Nat) (rets:List Sh):SX:=if rets=[] then .full d (.len (.var nv)) else .resO d (.len (.var nv)) (retVars (nv+1) rets)
def frzIf (s:Sh) (rets:List Sh) (fz:List Nat):List Nat:=if s.prim&&rets.all Sh.prim then [] else fz
def growX (P:Program) (ev:Ev) (bs:List Blk) (nv:Nat) (t:TypeId) (d f:Nat) (args:List Operand) (ts:List TypeId):Option (SX×List Blk×List Ob×Nat):=
 match retsT P t,args with
 |some (.sl s::rets),x0::xs=>
  match argsX ev (rbOf bs) [] xs ts.tail with
  |some (l,fz)=>
   if s.size !=0&&(isFree bs d&&f<1000000) then
    match ev [] x0 (ts.headD 0) with
    |some (.full r _)=>match ownRow bs r with
     |some (s',e)=>
      if s=s'&& !fz.contains r then
       some (ownRes d nv rets,((frzAll (frzIf s rets fz) bs).set r ⟨.dead,false,[]⟩).set d ⟨.row s (.var nv),false,[]⟩,[.call [] (1000000+f) ((.sl s,e)::l) (.sl s::rets)],1+rets.length)
      else none
     |none=>none
    |some (.dat (.sl s') .nilS)=>
     if s=s' then some (ownRes d nv rets,(frzAll (frzIf s rets fz) bs).set d ⟨.row s (.var nv),false,[]⟩,[.call [] (1000000+f) ((.sl s,.nilS)::l) (.sl s::rets)],1+rets.length)
     else none
    |_=>none
   else none
  |none=>none
 |_,_=>none
def freshX (P:Program) (ev:Ev) (bs:List Blk) (nv:Nat) (t:TypeId) (d f:Nat) (args:List Operand) (ts:List TypeId):Option (SX×List Blk×List Ob×Nat):=
 match retsT P t with
 |some (.sl s::rets)=>
  match argsX ev (rbOf bs) [] args ts with
  |some (l,fz)=>
   if s.size !=0&&(isFree bs d&&f<1000000) then
    some (ownRes d nv rets,(frzAll (frzIf s rets fz) bs).set d ⟨.row s (.var nv),false,[]⟩,[.call [] (2000000+f) l (.sl s::rets)],1+rets.length)
   else none
  |none=>none
 |_=>none
def opg (P:Program) (cfg:Cfg) (o:Oper) (ev:Ev) (bs:List Blk) (nv:Nat):Option (SX×List Blk×List Ob×Nat):=
 match o.op,o.dst with
 | .call {callee:= .value (.func f),args,argTypes},some d=>
  if cfg.grow.contains f then growX P ev bs nv o.type d f args.toList argTypes.toList
  else if cfg.fresh.contains f then freshX P ev bs nv o.type d f args.toList argTypes.toList
  else none
 |_,_=>none
inductive Cls where|P|R|A|L|W|G|call
 deriving DecidableEq
def cls (cfg:Cfg) (o:Oper):Cls:=
 match o.op with
 | .move _| .assign _| .pick .. | .binOp .. | .unOp .. | .extract .. | .field .. | .index .. | .makeInterface .. | .makeFunc .. | .typeAssert .. => .P
 | .alloc _| .makeSlice .. | .makeMap .. => .A
 | .range .. => .L
 | .mapUpdate .. | .next .. => .W
 | .convert .. =>if (match o.dst with|some d=>cfg.marks.contains d|none=>false) then .W else .R
 | .call {callee:= .invoke ..,.. }=> .call
 | .box .. => .L
 | .buildSlice _ len _=>if isRowLit cfg o len then .L else .R
 | .store .. | .call {callee:= .builtin .append,.. }| .call {callee:= .builtin .copy,.. }=> .W
 | .call {callee:= .builtin .min,.. }| .call {callee:= .builtin .max,.. }=> .P
 | .call {callee:= .value (.func f),.. }=>if cfg.owns f then .G else .call
 | .call {callee:= .value _,.. }=> .call
 |_=> .R
def SS.ev (P:Program) (S:SS):Ev:=fun pc x t=>
 match x with
 | .tmp i=>match S.tmps[i]? with
  |some ts=>if presSub ts.pres pc then some ts.sx else none
  |none=>none
 | .const v=>constSX (shp P t) v
 | .func f=>some (.fn f)
 | .global _=>none
def SS.rb (S:SS):Rb:=rbOf S.blks
def guardPres (S:SS) (ops:List Oper) (o:Oper):Option Pres:=
 match o.guard with
 |none=>some []
 |some (j,want)=>match ((ops[j]?).bind (·.dst)).bind (S.tmps[·]?) with
  |some ⟨p,.dat .bool e⟩=>some (p++ [(e,want)])
  |_=>none
def Cmd.run:Cmd→List Blk→List Blk
 | .frz r,bs=>bs.modify r fun b=> {b with froz:=true}
 | .put r b,bs=>bs.set r b
def runCmds (cs:List Cmd) (bs:List Blk):List Blk:=cs.foldl (fun bs c=>c.run bs) bs
def putT (l:List TS) (d:Option Tmp) (t:TS):List TS:=match d with|some d=>l.set d t|none=>l
def obVars (l:List Ob):Nat:=(l.map Ob.vars).sum
def astep (P:Program) (cfg:Cfg) (ops:List Oper) (o:Oper) (S:SS):Option (SS×List Ob):=
 match guardPres S ops o with
 |none=>none
 |some pc=>
  if cls cfg o= .W then
   if pc=[] then
    match opw P cfg o (S.ev P) S.blks with
    |some (x,bs,obs)=>if obVars obs=0 then some ({S with tmps:=putT S.tmps o.dst ⟨[],x⟩,blks:=bs},obs) else none
    |none=>none
   else none
  else if cls cfg o= .G then
   if pc=[] then
    match opg P cfg o (S.ev P) S.blks S.nv with
    |some (x,bs,obs,n)=>if obVars obs=n then some ({tmps:=putT S.tmps o.dst ⟨[],x⟩,blks:=bs,nv:=S.nv+n},obs) else none
    |none=>none
   else none
  else
   match opx P cfg o pc (S.ev P) S.rb S.nv with
   |some out=>if obVars out.obs=out.nv then some ({tmps:=putT S.tmps o.dst ⟨pc,out.x⟩,blks:=runCmds out.cmds S.blks,nv:=S.nv+out.nv},out.obs) else none
   |none=>none
def runOps (P:Program) (cfg:Cfg) (ops:List Oper):List Oper→SS→Option (SS×List Ob)
 | [],S=>some (S,[])
 |o::r,S=>match astep P cfg ops o S with
  |none=>none
  |some (S1,obs)=>match runOps P cfg ops r S1 with
   |none=>none
   |some (S2,obs')=>some (S2,obs++obs')
/-- Which operation stops the run (to look at; no proof uses it). -/
def stuckAt (P:Program) (cfg:Cfg) (ops:List Oper):Nat→List Oper→SS→Nat
 |n,[],_=>n
 |n,o::r,S=>match astep P cfg ops o S with|none=>n|some (S1,_)=>stuckAt P cfg ops (n+1) r S1
end Go.Vc

namespace Go.Vc

/-- e with the variables from base on replaced. -/
def E.subst (base:Nat) (es:List E):E→E
 | .var i=>if i<base then .var i else es.getD (i-base) (.var i)
 | .int n=> .int n
 | .bool b=> .bool b
 | .str s=> .str s
 | .nil=> .nil
 | .nilS=> .nilS
 | .cons x y=> .cons (x.subst base es) (y.subst base es)
 | .hd x=> .hd (x.subst base es)
 | .tl x=> .tl (x.subst base es)
 | .fset j x y=> .fset j (x.subst base es) (y.subst base es)
 | .bin o k x y=> .bin o k (x.subst base es) (y.subst base es)
 | .raw o x y=> .raw o (x.subst base es) (y.subst base es)
 | .cmp o x y=> .cmp o (x.subst base es) (y.subst base es)
 | .scmp o x y=> .scmp o (x.subst base es) (y.subst base es)
 | .beq x y=> .beq (x.subst base es) (y.subst base es)
 | .not x=> .not (x.subst base es)
 | .ite x y z=> .ite (x.subst base es) (y.subst base es) (z.subst base es)
 | .conv k x=> .conv k (x.subst base es)
 | .xorK k x=> .xorK k (x.subst base es)
 | .len x=> .len (x.subst base es)
 | .slen x=> .slen (x.subst base es)
 | .idx x y=> .idx (x.subst base es) (y.subst base es)
 | .sidx x y=> .sidx (x.subst base es) (y.subst base es)
 | .sub x y z=> .sub (x.subst base es) (y.subst base es) (z.subst base es)
 | .ssub x y z=> .ssub (x.subst base es) (y.subst base es) (z.subst base es)
 | .app x y=> .app (x.subst base es) (y.subst base es)
 | .set x y z=> .set (x.subst base es) (y.subst base es) (z.subst base es)
 | .rep x y=> .rep (x.subst base es) (y.subst base es)
 | .splice x y z=> .splice (x.subst base es) (y.subst base es) (z.subst base es)
 | .toStr x=> .toStr (x.subst base es)
 | .ofStr x=> .ofStr (x.subst base es)
 | .cat x y=> .cat (x.subst base es) (y.subst base es)
 | .minI x y=> .minI (x.subst base es) (y.subst base es)
 | .maxI x y=> .maxI (x.subst base es) (y.subst base es)
 | .fits k x=> .fits k (x.subst base es)
 | .deq s x y=> .deq s (x.subst base es) (y.subst base es)
 | .mget x y z=> .mget (x.subst base es) (y.subst base es) (z.subst base es)
 | .mhas x y=> .mhas (x.subst base es) (y.subst base es)
 | .mput x y z=> .mput (x.subst base es) (y.subst base es) (z.subst base es)
 | .drune x y=> .drune (x.subst base es) (y.subst base es)
 | .dwid x y=> .dwid (x.subst base es) (y.subst base es)
def SX.bd (n:Nat):SX→Bool
 | .none| .fn _| .meth .. | .mpo _| .ito _| .okF=>true
 | .nxt s p=>s.bd n&&p.bd n
 | .dat _ e| .full _ e| .ref _ e _ _ _| .ptr _ e| .nilq e=>e.bd n
 | .view _ a b=>a.bd n&&b.bd n
 | .res l=>l.all fun x=>x.2.bd n
 | .resO _ m l=>m.bd n&&l.all fun x=>x.2.bd n
def LB.bd (n:Nat):LB→Bool
 | .none| .dead=>true
 | .row _ e=>e.bd n
 | .box cs=>cs.all (·.bd n)
 | .mp _ _ e=>e.bd n
 | .sit s p=>s.bd n&&p.bd n
def SS.bd (S:SS) (n:Nat):Bool:=S.tmps.all (fun t=>presBd n t.pres&&t.sx.bd n)&&S.blks.all fun b=>presBd n b.pres&&b.lb.bd n
def Ob.bd (n:Nat):Ob→Bool
 | .asrt p e=>presBd n p&&e.bd n
 | .call p _ args _=>presBd n p&&args.all fun x=>x.2.bd n
def obsBd:Nat→List Ob→Bool
 |_,[]=>true
 |n,o::l=>o.bd n&&obsBd (n+o.vars) l
def obsVC:List Ob→VC→VC
 | [],k=>k
 | .asrt p e::l,k=> .asrt p e (obsVC l k)
 | .call p f args rets::l,k=> .call p f args rets (obsVC l k)
/-- The rows at the head and the rows here: none: the nil slice. -/
abbrev Ren:=List (Nat×Option Nat)
def ren (π:Ren) (r:Nat):Option (Option Nat):=(π.find? fun x=>x.1==r).map (·.2)
def rowAt (S:SS) (r:Nat):Option (Sh×E×Bool):=match S.blks[r]? with|some ⟨.row s e,f,[]⟩=>some (s,e,f)|_=>none
def boxAt (S:SS) (r:Nat):Option (List SX×Bool):=match S.blks[r]? with|some ⟨.box cs,f,[]⟩=>some (cs,f)|_=>none
def mapAt (S:SS) (r:Nat):Option (IntKind×Sh×E×Bool):=match S.blks[r]? with|some ⟨.mp k s e,f,[]⟩=>some (k,s,e,f)|_=>none
def sitAt (S:SS) (r:Nat):Option (E×E×Bool):=match S.blks[r]? with|some ⟨.sit s p,f,[]⟩=>some (s,p,f)|_=>none
/-- n is the length of the row's content. -/
def isLen (H:SS) (r:Nat) (n:E):Bool:=match rowAt H r with|some (_,e,_)=>decide (n= .len e)|none=>false
/-- What a temporary or a cell holds at the head follows from what it holds here. -/
def weakX (base:Nat) (es:List E) (π:Ren) (H:SS):SX→SX→Bool
 | .none,_=>true
 | .dat s e,.dat s' e'=>decide (s=s')&&decide (e.subst base es=e')
 | .full r n,.full r' n'=>(rowAt H r).isSome&&decide (ren π r=some (some r'))&&(decide (n.subst base es=n')||isLen H r n)
 | .full r n,.dat (.sl s) .nilS=>decide (ren π r=some none)&&((match rowAt H r with|some (s',_,_)=>decide (s=s')|none=>false)&&isLen H r n)
 | .view r off n,.view r' off' n'=>(rowAt H r).isSome&&decide (ren π r=some (some r'))&&(decide (off.subst base es=off')&&decide (n.subst base es=n'))
 | .ref r i fo s fld,.ref r' i' fo' s' fld'=>decide (r=r')&&(boxAt H r).isSome&&(decide (i.subst base es=i')&&(decide (fo=fo')&&(decide (s=s')&&decide (fld=fld'))))
 | .fn f,.fn f'=>decide (f=f')
 | .meth t s n,.meth t' s' n'=>decide (t=t')&&(decide (s=s')&&decide (n=n'))
 | .mpo r,.mpo r'=>decide (r=r')&&(mapAt H r).isSome
 | .ito r,.ito r'=>decide (r=r')&&(sitAt H r).isSome
 |_,_=>false
def weakXs (base:Nat) (es:List E) (π:Ren) (H:SS):List SX→List SX→Bool
 | [],[]=>true
 |x::l,y::m=>weakX base es π H x y&&weakXs base es π H l m
 |_,_=>false
def weakTs (base:Nat) (es:List E) (π:Ren) (H:SS):List TS→List TS→Bool
 | [],[]=>true
 |x::l,y::m=>decide (x.pres=[])&&(decide (x.sx= .none)||(decide (y.pres=[])&&weakX base es π H x.sx y.sx))&&weakTs base es π H l m
 |_,_=>false
def weakB (base:Nat) (es:List E) (π:Ren) (H S:SS) (r:Nat) (b:Blk):Bool:=
 match b with
 |⟨.none,_,_⟩|⟨.dead,_,_⟩=>true
 |⟨.row s e,f,[]⟩=>match ren π r with
  |some (some r')=>match rowAt S r' with
   |some (s',e',f')=>decide (s=s')&&decide (e.subst base es=e')&&(f|| !f')
   |none=>false
  |some none=>decide (e.subst base es= .nil)&&s.size !=0
  |none=>false
 |⟨.box cs,f,[]⟩=>match boxAt S r with
  |some (cs',f')=>(f|| !f')&&weakXs base es π H cs cs'
  |none=>false
 |⟨.mp k s e,f,[]⟩=>match mapAt S r with
  |some (k',s',e',f')=>decide (k=k')&&(decide (s=s')&&(decide (e.subst base es=e')&&(f|| !f')))
  |none=>false
 |⟨.sit s p,f,[]⟩=>match sitAt S r with
  |some (s',p',f')=>decide (s.subst base es=s')&&(decide (p.subst base es=p')&&(f|| !f'))
  |none=>false
 |_=>false
def weakBs (base:Nat) (es:List E) (π:Ren) (H S:SS):Nat→List Blk→Bool
 |_,[]=>true
 |r,b::l=>weakB base es π H S r b&&weakBs base es π H S (r+1) l
def renInj:Ren→Bool
 | []=>true
 |(_,x)::l=>(match x with|none=>true|some r=>l.all fun y=>y.2 !=some r)&&renInj l
def weakOk (base:Nat) (es:List E) (π:Ren) (H S:SS):Bool:=
 weakTs base es π H H.tmps S.tmps&&(weakBs base es π H S 0 H.blks&&renInj π)
/-! What a loop's head looks like: no proof looks in here. -/
structure Hint where
 key:Nat
 slots:List Nat
 own:List (Nat×Nat):=[]
 cells:List (Nat×Nat×Nat):=[]
 hav:List Nat:=[]
 havc:List (Nat×Nat):=[]
def writes:Code→List Nat
 | .region _ ops _=>ops.toList.filterMap (·.dst)
 | .seq a b=>writes a++writes b
 | .cond _ a b=>writes a++writes b
 | .block _ c=>writes c
 | .loop c=>writes c
 | .scope c=>writes c
 |_=> []
def firstRegion:Code→Nat
 | .region id _ _=>id
 | .seq a _=>firstRegion a
 | .block _ c=>firstRegion c
 | .loop c=>firstRegion c
 |_=>0
def refOf:SX→Option Nat
 | .full r _| .view r _ _| .ref r _ _ _ _| .mpo r| .ito r=>some r
 |_=>none
structure HSt where
 nv:Nat
 es:List E
 π:Ren
 blks:List Blk
def ownIt (S:SS) (x:SX) (id:Nat) (st:HSt):SX×HSt:=
 match x with
 | .dat (.sl s) .nilS=>(.full id (.len (.var st.nv)),{st with nv:=st.nv+1,es:=st.es++ [.nil],π:=st.π++ [(id,none)],blks:=st.blks.set id ⟨.row s (.var st.nv),false,[]⟩})
 | .full r _=>match rowAt S r with
  |some (s,e,f)=>(.full id (.len (.var st.nv)),{st with nv:=st.nv+1,es:=st.es++ [e],π:=st.π++ [(id,some r)],blks:=(st.blks.set r ⟨.dead,false,[]⟩).set id ⟨.row s (.var st.nv),f,[]⟩})
  |none=>(.none,st)
 |_=>(.none,st)
def headTs (S:SS) (h:Hint) (tw:List Nat):Nat→List TS→HSt→List TS×HSt
 |_,[],st=>([],st)
 |t,ts::l,st=>
  let (x,st):=match h.own.find? (·.1==t) with
   |some (_,id)=>ownIt S ts.sx id st
   |none=>
    if h.slots.contains t then match ts.sx with
     | .dat s e=>(SX.dat s (.var st.nv),{st with nv:=st.nv+1,es:=st.es++ [e]})
     |_=>(.none,st)
    else if tw.contains t then (.none,st)
    else if ts.pres=[] then (match ts.sx with| .ptr .. | .res _| .resO .. | .nilq _| .nxt .. | .okF| .meth .. =>(.none,st)|x=>match refOf x with|some r=>if h.own.any (·.2==r)||h.cells.any (·.2.2==r) then (.none,st) else (x,st)|none=>(x,st)) else (.none,st)
  let (l,st):=headTs S h tw (t+1) l st
  (⟨[],x⟩::l,st)
def headCells (S:SS) (h:Hint) (r:Nat):Nat→List SX→HSt→List SX×HSt
 |_,[],st=>([],st)
 |j,x::l,st=>
  let (y,st):=match h.cells.find? (fun c=>c.1==r&&c.2.1==j) with
   |some (_,_,id)=>ownIt S x id st
   |none=>if h.havc.any (fun c=>c.1==r&&c.2==j) then match x with
     | .dat s e=>(SX.dat s (.var st.nv),{st with nv:=st.nv+1,es:=st.es++ [e]})
     |x=>(x,st)
    else (x,st)
  let (l,st):=headCells S h r (j+1) l st
  (y::l,st)
def headBs (S:SS) (h:Hint) (tw:List Nat):Nat→List Blk→HSt→HSt
 |_,[],st=>st
 |r,b::l,st=>
  let st:=if (h.own.any (·.2==r)||h.cells.any (·.2.2==r)) then st
   else if tw.contains r then {st with blks:=st.blks.set r ⟨.none,false,[]⟩}
   else match b with
    |⟨.row s e,f,[]⟩=>
     if (st.blks[r]?).map (·.lb)=some .dead then st
     else if h.hav.contains r then {st with nv:=st.nv+1,es:=st.es++ [e],π:=st.π++ [(r,some r)],blks:=st.blks.set r ⟨.row s (.var st.nv),f,[]⟩}
     else {st with π:=st.π++ [(r,some r)]}
    |⟨.box cs,f,[]⟩=>
     let (cs,st):=headCells S h r 0 cs st
     {st with blks:=st.blks.set r ⟨.box cs,f,[]⟩}
    |⟨.mp k s e,f,[]⟩=>if h.hav.contains r then {st with nv:=st.nv+1,es:=st.es++ [e],blks:=st.blks.set r ⟨.mp k s (.var st.nv),f,[]⟩} else st
    |⟨.sit s p,f,[]⟩=>if h.hav.contains r then {st with nv:=st.nv+1,es:=st.es++ [p],blks:=st.blks.set r ⟨.sit s (.var st.nv),f,[]⟩} else st
    |⟨.none,_,_⟩|⟨.dead,_,_⟩=>st
    |_=> {st with blks:=st.blks.set r ⟨.dead,false,[]⟩}
  headBs S h tw (r+1) l st
def scrub (H:List Blk) (t:TS):TS:=
 match refOf t.sx with
 |some r=>match H[r]? with
  |some ⟨.row ..,_,_⟩=>(match t.sx with| .ref .. =>⟨[],.none⟩|_=>t)
  |some ⟨.box ..,_,_⟩|some ⟨.mp ..,_,_⟩|some ⟨.sit ..,_,_⟩=>t
  |_=>⟨[],.none⟩
 |none=>t
def mkHead (h:Hint) (tw:List Nat) (S:SS):SS×List E×Ren:=
 let (ts,st):=headTs S h tw 0 S.tmps {nv:=S.nv,es:=[],π:=[],blks:=S.blks}
 let st:=headBs S h tw 0 S.blks st
 ({tmps:=ts.map (scrub st.blks),blks:=st.blks,nv:=st.nv},st.es,st.π)
/-! A hint, out of the code of the loop and the state in which it is met. -/
def allOps:Code→List Oper
 | .region _ ops _=>ops.toList
 | .seq a b=>allOps a++allOps b
 | .cond _ a b=>allOps a++allOps b
 | .block _ c=>allOps c
 | .loop c=>allOps c
 | .scope c=>allOps c
 |_=> []
def conds:Code→List Nat
 | .seq a b=>conds a++conds b
 | .cond c a b=>(match c with| .tmp t=> [t]|_=> [])++conds a++conds b
 | .block _ c=>conds c
 | .loop c=>conds c
 |_=> []
def tmpsOf (o:Op):List Nat:=o.operands.toList.filterMap fun| .tmp t=>some t|_=>none
def exposed:List Oper→List Nat→List Nat
 | [],_=> []
 |o::l,w=>(tmpsOf o.op).filter (fun t=> !w.contains t)++exposed l (match o.dst with|some d=>d::w|none=>w)
def defOf (ops:List Oper) (t:Nat):Option Op:=(ops.find? fun o=>o.dst==some t).map (·.op)
def isApp (o:Op):Bool:=match o with| .call {callee:= .builtin .append,.. }=>true|_=>false
def boxOf (S:SS) (t:Nat):Option (Nat×Sh):=match S.tmps[t]? with|some ⟨_,.ref r _ _ s _⟩=>some (r,s)|_=>none
def rowOfT (S:SS) (t:Nat):Option Nat:=match S.tmps[t]? with|some ⟨_,.full r _⟩|some ⟨_,.view r _ _⟩=>some r|_=>none
def viaMove (ops:List Oper) (t:Nat):Nat:=match defOf ops t with|some (.move (.tmp v))=>v|_=>t
def cellsAt (off n:Nat):List Nat:=(List.range n).map (off+·)
def isOwn (cfg:Cfg) (o:Op):Bool:=isApp o||(match o with| .call {callee:= .value (.func f),.. }=>cfg.owns f|_=>false)
/-- Numbers for rows: that which is held already, or a free one. -/
def giveIds:List (Nat×Option Nat)→List Nat→List (Nat×Nat)
 | [],_=> []
 |(t,some r)::l,f=>(t,r)::giveIds l f
 |(t,none)::l,r::f=>(t,r)::giveIds l f
 |(_,none)::l,[]=>giveIds l []
def heldAt (S:SS) (n t:Nat):Option Nat:=match rowOfT S t with|some r=>if n≤r then some r else none|none=>none
def liveAt (S:SS) (r:Nat):Bool:=match S.blks[r]? with|some ⟨.row ..,_,_⟩|some ⟨.box _,_,_⟩|some ⟨.mp ..,_,_⟩|some ⟨.sit ..,_,_⟩=>true|_=>false
def objOfT (S:SS) (t:Nat):Option Nat:=match S.tmps[t]? with|some ⟨_,.mpo r⟩|some ⟨_,.ito r⟩=>some r|_=>none
def autoHint (cfg:Cfg) (c:Code) (S:SS):Hint:=
 let ops:=allOps c
 let tw:=writes c
 let ex:=exposed ops []
 let as:=ops.filterMap fun o=>match o.op with| .assign _=>o.dst|_=>none
 let app:=ops.filterMap fun o=>if isOwn cfg o.op then o.dst else none
 let app:=app++ops.filterMap fun o=>match o.op,o.dst with| .extract (.tmp t) 0,some d=>if app.contains t then some d else none|_,_=>none
 let n:=S.tmps.length
 let own:=(ops.filterMap fun o=>match o.op,o.dst with
  | .assign (.tmp x),some t=>if app.contains x then some t else none
  |_,_=>none).eraseDups
 let own:=own.map fun t=>(t,heldAt S n t)
 let own:=giveIds own (((List.range 8).map (n+·)).filter fun r=> !liveAt S r&& !(own.any fun x=>x.2==some r))
 let stores:=ops.filterMap fun o=>match o.op with| .store _ (.tmp a) (.tmp x)=>some (a,some x)| .store _ (.tmp a) _=>some (a,none)|_=>none
 let touched:=stores.filterMap fun (a,x)=>match defOf ops a with
  |some (.fieldAddr _ (.tmp b) j)=>match boxOf S b with
   |some (r,s)=>match s.fld j with|some (s',off)=>some (r,off,s'.size,x)|none=>none
   |none=>none
  |none=>match boxOf S a with|some (r,s)=>some (r,0,s.size,x)|none=>none
  |_=>none
 let cells:=((touched.filterMap fun (r,off,_,x)=>match x with|some x=>if app.contains x then some (r,off) else none|none=>none).eraseDups).zipIdx.map fun ((r,off),i)=>(r,off,n+8+i)
 let havc:=(touched.flatMap fun (r,off,k,_)=>(cellsAt off k).map fun j=>(r,j)).eraseDups
 let hav:=stores.filterMap fun (a,_)=>match defOf ops a with
  |some (.indexAddr _ (.tmp q) _)=>rowOfT S (viaMove ops q)
  |some (.fieldAddr _ (.tmp b) _)=>match defOf ops b with|some (.indexAddr _ (.tmp q) _)=>rowOfT S (viaMove ops q)|_=>none
  |_=>none
 let copies:=ops.filterMap fun o=>match o.op with
  | .call {callee:= .builtin .copy,args,.. }=>match args.toList with
   |(.tmp a)::_=>match defOf ops a with|some (.slice _ (.tmp q) _ _ _)=>rowOfT S (viaMove ops q)|_=>rowOfT S (viaMove ops a)
   |_=>none
  |_=>none
 let objs:=ops.filterMap fun o=>match o.op with
  | .mapUpdate _ (.tmp m) _ _=>objOfT S (viaMove ops m)
  | .next (.tmp i) _=>objOfT S (viaMove ops i)
  |_=>none
 {key:=0,slots:=(ex++as++conds c).filter (fun t=>tw.contains t),own,cells,hav:=(hav++copies++objs).eraseDups,havc}
/-- What the variables of the head are here: read off by going along both. -/
def guessX (H:SX) (S:SX):List (E×E)×Ren:=
 match H,S with
 | .dat _ e,.dat _ e'=>([(e,e')],[])
 | .full r n,.full r' n'=>([(n,n')],[(r,some r')])
 | .full r _,.dat _ .nilS=>([],[(r,none)])
 |_,_=>([],[])
def guessL {α:Type} (f:α→α→List (E×E)×Ren):List α→List α→List (E×E)×Ren
 |x::l,y::m=>let (a,b):=f x y;let (c,d):=guessL f l m;(a++c,b++d)
 |_,_=>([],[])
def guessB (H S:Blk):List (E×E)×Ren:=
 match H.lb,S.lb with
 | .box cs,.box cs'=>guessL guessX cs cs'
 | .mp _ _ e,.mp _ _ e'=>([(e,e')],[])
 | .sit _ p,.sit _ p'=>([(p,p')],[])
 |_,_=>([],[])
def addRen:Ren→Ren→Ren
 |π,[]=>π
 |π,x::l=>if π.any (fun y=>y.1==x.1) then addRen π l else addRen (π++ [x]) l
def rowsOf (own:Ren):Nat→List Blk→Ren
 |_,[]=> []
 |r,b::l=>match b.lb with
  | .row .. =>if own.any (fun y=>y.1==r) then rowsOf own (r+1) l else (r,some r)::rowsOf own (r+1) l
  |_=>rowsOf own (r+1) l
def guess (base k:Nat) (H S:SS):List E×Ren:=
 let (a,p):=guessL (fun x y:TS=>guessX x.sx y.sx) H.tmps S.tmps
 let (b,q):=guessL guessB H.blks S.blks
 let π:=addRen [] (p++q)
 let π:=π++rowsOf π 0 H.blks
 let rows:=π.filterMap fun (r,o)=>match rowAt H r with
  |some (_,e,_)=>match o with
   |some r'=>(rowAt S r').map fun (_,e',_)=>(e,e')
   |none=>some (e,.nil)
  |none=>none
 let eqs:=a++b++rows
 ((List.range k).map fun i=>((eqs.find? fun x=>decide (x.1= .var (base+i))).map (·.2)).getD .nil,π)
/-- The temporaries that an operation looks at. -/
def looks (ops:List Oper) (o:Oper):List Nat:=
 o.op.operands.toList.filterMap (fun| .tmp t=>some t|_=>none)++(match o.guard with|some (j,_)=>((ops[j]?).bind (·.dst)).toList|none=> [])
/-- x may come ahead of a, which stands ahead of it in the text. -/
def indep (cfg:Cfg) (ops:List Oper) (a x:Oper):Bool:=
 (match a.dst with|some d=> !(looks ops x).contains d&&x.dst !=some d|none=>true)&&
 ((match x.dst with|some d=> !(looks ops a).contains d|none=>true)&&
 match cls cfg a,cls cfg x with
 | .P,_|_,.P=>true
 | .R,.R| .R,.call| .call,.R| .R,.A| .call,.A| .R,.L| .call,.L| .A,.A| .L,.A=>true
 |_,_=>false)
/-- Of each operation: those that come ahead of it, as bits. -/
def ancs:List Oper→List Nat→List Nat
 | [],acc=>acc
 |o::l,acc=>ancs l (acc++ [o.after.toList.foldl (fun m e=>if Region.binds .any e then m|||2^e.on|||acc.getD e.on 0 else m) 0])
def pairsOk (cfg:Cfg) (ops:List Oper) (an:List Nat):Bool:=
 ops.zipIdx.all fun (x,j)=>ops.zipIdx.all fun (a,i)=> !(i<j)||(an.getD j 0).testBit i||indep cfg ops a x
/-- What comes ahead of an operation stands ahead of it. -/
def backOk (ops:List Oper):Bool:=ops.zipIdx.all fun (o,i)=>o.after.toList.all fun e=> !Region.binds .any e||e.on<i
def regionOk (P:Program) (cfg:Cfg) (ops:List Oper):Bool:=P.follows .mixedOrders&&(backOk ops&&pairsOk cfg ops (ancs ops []))
/-! A region in any order, by what each operation looks at and turns: no two that may change places meet. -/
def storeRowC (bs:List Blk) (r:Nat) (es:Sh) (e i:E) (fo:Nat) (s:Sh) (fld:Option Nat) (x:SX):Option (List Cmd):=
 match datOf (rbOf bs) [] x with
 |some (s',ex,f)=>
  if s=s'&& !f.contains r then
   match fld with
   |none=>if s=es then some (f.map .frz++ [.put r ⟨.row es (.set e i ex),false,[]⟩]) else none
   |some j=>if es.fld j=some (s,fo) then some (f.map .frz++ [.put r ⟨.row es (.set e i (.fset j (.idx e i) ex)),false,[]⟩]) else none
  else none
 |none=>none
def storeBoxC (bs:List Blk) (r:Nat) (cs:List SX) (fo:Nat) (s:Sh) (x:SX):Option (List Cmd):=
 match x with
 | .dat s' ex=>if s=s'&&fo+s.size≤cs.length then some [.put r ⟨.box (cs.take fo++(flat s ex++cs.drop (fo+s.size))),false,[]⟩] else none
 | .full r' n=>match rowOf (rbOf bs) [] r' with
  |some (es,_)=>if s= .sl es&&fo<cs.length then some [.put r ⟨.box (cs.set fo (.full r' n)),false,[]⟩] else none
  |none=>none
 |_=>none
def storeC (P:Program) (bs:List Blk) (t:TypeId) (a x:Option SX):Option (List Cmd):=
 match a,x with
 |some (.ref r i fo s fld),some x=>if fitsT P t s then match bs[r]? with
   |some ⟨.row es e,false,[]⟩=>storeRowC bs r es e i fo s fld x
   |some ⟨.box cs,false,[]⟩=>storeBoxC bs r cs fo s x
   |_=>none
  else none
 |_,_=>none
def appendC (P:Program) (keep:Bool) (bs:List Blk) (ts:Array TypeId) (d:Nat) (a b:Option SX):Option (SX×List Cmd×List Ob):=
 match elemT P (ts.getD 0 0),a,b with
 |some et,some sa,some sb=>
  match srcA P bs et (ts.getD 1 0) sb with
  |none=>none
  |some (s,m,f)=>
   if ts.size=2&&(zeroE P et s).isSome&&fitsT P et s&&s.size !=0&&P.bytesOf et !=0 then
    match sa with
    | .dat (.sl s') .nilS=>if s=s'&&isFree bs d then some (.full d (lenE m),[.put d ⟨.row s m,false,[]⟩],[.asrt [] (.cmp .leq (.raw .mul (.len m) (.int (P.bytesOf et))) (.int 140737488355328))]) else none
    | .full r n=>match ownRow bs r with
     |some (s',e)=>
      if keep then
       if s=s'&& !f.contains r then
        some (.dat (.sl s) (.app e m),[.put r ⟨.row s e,true,[]⟩],[.asrt [] (.cmp .leq (.raw .mul (.raw .add n (.len m)) (.int (P.bytesOf et))) (.int 140737488355328))])
       else none
      else if s=s'&& !f.contains r&&isFree bs d then
       some (.full d (.raw .add n (lenE m)),[.put r ⟨.dead,false,[]⟩,.put d ⟨.row s (.app e m),false,[]⟩],[.asrt [] (.cmp .leq (.raw .mul (.raw .add n (.len m)) (.int (P.bytesOf et))) (.int 140737488355328))])
      else none
     |none=>none
    |_=>none
   else none
 |_,_,_=>none
def copyC (P:Program) (bs:List Blk) (ts:Array TypeId) (a b:Option SX):Option (SX×List Cmd):=
 match elemT P (ts.getD 0 0),a,b with
 |some et,some sa,some sb=>
  match srcX P bs (ts.getD 1 0) sb,dstX sa with
  |some (s,m,_),some (r,off,n)=>match ownRow bs r with
   |some (s',e)=>if s=s'&&fitsT P et s&&ts.size=2 then
     some (.dat (.int .i64) (.minI (lenE m) n),[.put r ⟨.row s (.splice e off (.sub m (.int 0) n)),false,[]⟩])
    else none
   |none=>none
  |_,_=>none
 |_,_,_=>none
/-- As 'opw', but told by commands. -/
def opwC (P:Program) (cfg:Cfg) (o:Oper) (ev:Ev) (bs:List Blk):Option (SX×List Cmd×List Ob):=
 match o.op with
 | .store t a x=>match storeC P bs t (ev [] a 0) (ev [] x t) with|some cs=>some (.none,cs,[])|none=>none
 | .call {callee:= .builtin .append,args,argTypes}=>match args.toList,o.dst with
  | [a,b],some d=>appendC P (cfg.keep o) bs argTypes d (ev [] a (argTypes.getD 0 0)) (ev [] b (argTypes.getD 1 0))
  |_,_=>none
 | .call {callee:= .builtin .copy,args,argTypes}=>match args.toList with
  | [a,b]=>match copyC P bs argTypes (ev [] a (argTypes.getD 0 0)) (ev [] b (argTypes.getD 1 0)) with|some (x,cs)=>some (x,cs,[])|none=>none
  |_=>none
 | .convert src dst x=>if src=dst then match markX P bs src (ev [] x src) with|some (s,e,r)=>some (.dat (.sl s) e,[.put r ⟨.dead,false,[]⟩],[])|none=>none else none
 | .mapUpdate t m k x=>match mputX P bs t (ev [] m t) (intOf? (ev [] k 0)) (ev [] x 0) with|some (r,b)=>some (.none,[.put r b],[])|none=>none
 | .next it true=>match nextX bs (ev [] it 0) with|some (x,r,b)=>some (x,[.put r b],[])|none=>none
 |_=>none
/-- A step, but for its guard and its temporary, by commands. -/
def coreC (P:Program) (cfg:Cfg) (o:Oper) (pc:Pres) (ev:Ev) (bs:List Blk) (nv:Nat):Option (SX×List Cmd×Nat×List Ob):=
 if cls cfg o= .W then
  if pc=[] then match opwC P cfg o ev bs with
   |some (x,cs,obs)=>if obVars obs=0 then some (x,cs,0,obs) else none
   |none=>none
  else none
 else if cls cfg o= .G then none
 else match opx P cfg o pc ev (rbOf bs) nv with
  |some out=>if obVars out.obs=out.nv then some (out.x,out.cmds,out.nv,out.obs) else none
  |none=>none
structure FP where
 F:List Nat
 W:List Nat
 Z:List Nat
def noBlk:Blk:=⟨.none,false,[]⟩
/-- The blocks of F alone. -/
def cutTo (F:List Nat) (bs:List Blk):List Blk:=bs.mapIdx fun i b=>if F.contains i then b else noBlk
def cmdIn (φ:FP):Cmd→Bool
 | .put r _=>φ.W.contains r
 | .frz r=>φ.Z.contains r
def dstIn (φ:FP) (o:Oper):Bool:=match o.dst with|some d=>φ.F.contains d|none=>true
/-- A place in a row: what stands in the row does not matter. -/
def isIA (o:Oper):Bool:=match o.op with| .indexAddr .. =>true|_=>false
def isSt (o:Oper):Bool:=match o.op with| .store .. =>true|_=>false
def stepF (P:Program) (cfg:Cfg) (φ:Oper→FP) (ops:List Oper) (o:Oper) (S:SS):Option (SS×List Ob):=
 match guardPres S ops o with
 |none=>none
 |some pc=>match coreC P cfg o pc (S.ev P) (cutTo (φ o).F S.blks) S.nv with
  |some (x,cs,n,ob)=>
   if cs.all (cmdIn (φ o))&&dstIn (φ o) o then some ({tmps:=putT S.tmps o.dst ⟨pc,x⟩,blks:=runCmds cs S.blks,nv:=S.nv+n},ob) else none
  |none=>none
def runF (step:Oper→SS→Option (SS×List Ob)):List Oper→SS→Option (SS×List Ob)
 | [],S=>some (S,[])
 |o::r,S=>match step o S with
  |none=>none
  |some (S1,obs)=>match runF step r S1 with
   |none=>none
   |some (S2,obs')=>some (S2,obs++obs')
def apart (a b:List Nat):Bool:=a.all fun r=> !b.contains r
def indepF (cfg:Cfg) (φ:Oper→FP) (ops:List Oper) (a x:Oper):Bool:=
 (match a.dst with|some d=> !(looks ops x).contains d&&x.dst !=some d|none=>true)&&
 ((match x.dst with|some d=> !(looks ops a).contains d|none=>true)&&
 ((apart (φ a).W (φ x).F||isSt a&&isIA x)&&((apart (φ x).W (φ a).F||isSt x&&isIA a)&&(apart (φ a).W (φ x).W&&(apart (φ a).W (φ x).Z&&(apart (φ x).W (φ a).Z&&
 ((cls cfg x != .W||apart (φ a).Z (φ x).F)&&((cls cfg a != .W||apart (φ x).Z (φ a).F)&&(cls cfg a != .call||cls cfg x != .call)))))))))
def pairsOkF (cfg:Cfg) (φ:Oper→FP) (ops:List Oper) (an:List Nat):Bool:=
 ops.zipIdx.all fun (x,j)=>ops.zipIdx.all fun (a,i)=> !(i<j)||(an.getD j 0).testBit i||indepF cfg φ ops a x
/-! The footprints, by a run in the order of the text (no proof looks in here). -/
def keyOf (o:Oper):Nat:=match o.dst with
 |some d=>2*d
 |none=>match o.op with| .store _ (.tmp a) _=>2*a+1| .mapUpdate _ (.tmp a) (.tmp b) _=>2*(1000*a+b)+1|_=>1
def refsX (bs:List Blk) (x:SX):List Nat:=match refOf x with
 |some r=>r::(match bs[r]? with|some ⟨.box cs,_,_⟩=>cs.filterMap refOf|_=> [])
 |none=>match x with| .resO r _ _=> [r]|_=> []
def fpAt (cfg:Cfg) (S:SS) (o:Oper) (cs:List Cmd):FP:=
 {F:=(if cls cfg o= .P then [] else (tmpsOf o.op).flatMap (fun t=>match S.tmps[t]? with|some ts=>refsX S.blks ts.sx|none=> []))++o.dst.toList
  W:=cs.filterMap fun| .put r _=>some r|_=>none
  Z:=cs.filterMap fun| .frz r=>some r|_=>none}
def fpRun (P:Program) (cfg:Cfg) (ops:List Oper):List Oper→SS→List (Nat×FP)
 | [],_=> []
 |o::l,S=>match guardPres S ops o with
  |none=> []
  |some pc=>match coreC P cfg o pc (S.ev P) S.blks S.nv with
   |some (x,cs,n,_)=>(keyOf o,fpAt cfg S o cs)::fpRun P cfg ops l {tmps:=putT S.tmps o.dst ⟨pc,x⟩,blks:=runCmds cs S.blks,nv:=S.nv+n}
   |none=> []
def fpOf (T:List (Nat×FP)) (o:Oper):FP:=((T.find? fun x=>x.1==keyOf o).map (·.2)).getD ⟨[],[],[]⟩
def regionOkF (P:Program) (cfg:Cfg) (ops:List Oper) (S:SS):Bool:=
 match fpRun P cfg ops ops S with
 |T=>P.follows .mixedOrders&&(backOk ops&&(pairsOkF cfg (fpOf T) ops (ancs ops [])&&(runF (stepF P cfg (fpOf T) ops) ops S).isSome))
/-- The ways of an 'if' that meet again: what each temporary holds then. -/
def mergeX (c:E):SX→SX→SX
 | .dat s e,.dat s' e'=>if s=s' then (if e=e' then .dat s e else .dat s (.ite c e e')) else .none
 |x,y=>if x=y then x else .none
def mergeTs (c:E):List TS→List TS→List TS
 |x::l,y::m=>(if x.pres=[]∧y.pres=[] then ⟨[],mergeX c x.sx y.sx⟩ else ⟨[],.none⟩)::mergeTs c l m
 |_,_=> []
def mergeCs (c:E):List SX→List SX→Option (List SX)
 | [],[]=>some []
 |x::l,y::m=>match mergeCs c l m with
  |some r=>if x=y then some (x::r) else match x,y with
   | .dat s e,.dat s' e'=>if s=s' then some (.dat s (.ite c e e')::r) else none
   |_,_=>none
  |none=>none
 |_,_=>none
def mergeB (c:E) (x y:Blk):Option Blk:=
 if x=y then some x else match x,y with
 |⟨.box cs,f,[]⟩,⟨.box cs',f',[]⟩=>if f=f' then (match mergeCs c cs cs' with|some r=>some ⟨.box r,f,[]⟩|none=>none) else none
 |_,_=>none
def mergeBs (c:E):List Blk→List Blk→Option (List Blk)
 | [],[]=>some []
 |x::l,y::m=>match mergeB c x y,mergeBs c l m with
  |some b,some r=>some (b::r)
  |_,_=>none
 |_,_=>none
def mergeS (c:E) (S S':SS):Option SS:=
 if S.tmps.length=S'.tmps.length∧S.nv=S'.nv then match mergeBs c S.blks S'.blks with
  |some bs=>some {tmps:=mergeTs c S.tmps S'.tmps,blks:=bs,nv:=S.nv}
  |none=>none
 else none
/-- Under one more test. -/
def Ob.under (p:Pres):Ob→Ob
 | .asrt q e=> .asrt (p++q) e
 | .call q f a r=> .call (p++q) f a r
/-- Code that only goes on, and calls nothing. -/
def prun (P:Program) (cfg:Cfg):Code→SS→Option (SS×List Ob)
 | .skip,S=>some (S,[])
 | .region _ ops draw,S=>
  if draw&& !regionOk P cfg ops.toList then none else
  match runOps P cfg ops.toList ops.toList S with
  |some (S',obs)=>if S'.nv=S.nv then some (S',obs) else none
  |none=>none
 | .seq a b,S=>match prun P cfg a S with
  |some (S1,o1)=>match prun P cfg b S1 with
   |some (S2,o2)=>some (S2,o1++o2)
   |none=>none
  |none=>none
 | .cond c a b,S=>match S.ev P [] c 0 with
  |some (.dat .bool e)=>match prun P cfg a S,prun P cfg b S with
   |some (S1,o1),some (S2,o2)=>match mergeS e S1 S2 with
    |some M=>some (M,o1.map (Ob.under [(e,true)])++o2.map (Ob.under [(e,false)]))
    |none=>none
   |_,_=>none
  |_=>none
 |_,_=>none
/-- How code is left. -/
inductive XE where
 |normal
 |exit (id:Nat)
 |ret
def sx (P:Program) (cfg:Cfg) (hints:List Hint):Code→SS→Nat→(XE→SS→Nat→VC)→VC
 | .skip,S,l,K=>K .normal S l
 | .region id ops draw,S,l,K=>
  if draw&& !(regionOk P cfg ops.toList||regionOkF P cfg ops.toList S) then .fail (1000000+id) else
  match runOps P cfg ops.toList ops.toList S with
  |some (S',obs)=>if S.bd S.nv&&obsBd S.nv obs then obsVC obs (K .normal S' l) else .fail (2000000+id)
  |none=> .fail (1000*id+stuckAt P cfg ops.toList 0 ops.toList S)
 | .seq a b,S,l,K=>sx P cfg hints a S l fun e S' l=>match e with| .normal=>sx P cfg hints b S' l K|e=>K e S' l
 | .cond c a b,S,l,K=>match S.ev P [] c 0 with
  |some (.dat .bool e)=>match e with
   | .bool true=>sx P cfg hints a S l K
   | .bool false=>sx P cfg hints b S l K
   |e=>match prun P cfg (.cond c a b) S with
    |some (M,obs)=>if S.bd S.nv&&obsBd S.nv obs then obsVC obs (K .normal M l) else .fail 3000001
    |none=>
     if cfg.cuts.contains (firstRegion a) then
      match mkHead (autoHint cfg (.cond c a b) S) (writes (.cond c a b)) S with
      |(H,es,_)=>
       if H.nv=S.nv+es.length&&H.bd H.nv then
        .cut es.length (.cond e (sx P cfg hints a S (l+1) fun x S' l'=>match x with
         | .normal=>match guess S.nv es.length H S' with
          |(es',π')=>if weakOk S.nv es' π' H S'&&es'.length=es.length then .back l es' else .fail (4000000+firstRegion a)
         |x=>K x S' l') (sx P cfg hints b S (l+1) fun x S' l'=>match x with
         | .normal=>match guess S.nv es.length H S' with
          |(es',π')=>if weakOk S.nv es' π' H S'&&es'.length=es.length then .back l es' else .fail (4500000+firstRegion a)
         |x=>K x S' l')) (K .normal H l)
       else .fail (4900000+firstRegion a)
     else .cond e (sx P cfg hints a S l K) (sx P cfg hints b S l K)
  |some (.nilq e)=> .amb e (sx P cfg hints a S l K) (sx P cfg hints b S l K)
  |_=> .fail 3000000
 | .block id c,S,l,K=>sx P cfg hints c S l fun e S' l=>match e with
  | .exit id'=>if id'=id then K .normal S' l else K (.exit id') S' l
  |e=>K e S' l
 | .exit id,S,l,K=>K (.exit id) S l
 | .ret,S,l,K=>K .ret S l
 | .loop c,S,l,K=>
  match mkHead (match hints.find? (fun h=>h.key==firstRegion c) with|some h=>h|none=>autoHint cfg c S) (writes c) S with
  |(H,es,π)=>
   if weakOk S.nv es π H S&&(H.nv=S.nv+es.length&&(H.bd H.nv&&S.bd S.nv)) then
    .loop es (sx P cfg hints c H (l+1) fun e S' l'=>match e with
     | .normal=>
      match guess S.nv es.length H S' with
      |(es',π')=>if weakOk S.nv es' π' H S'&&es'.length=es.length then .back l es' else .fail (5000000+firstRegion c)
     |e=>K e S' l')
   else .fail (6000000+firstRegion c)
 |_,_,_,_=> .fail 7000000
/-- Literals that are appended to, or written into (no proof looks in here). -/
def rowLits (c:Code):List Nat:=
 let ops:=allOps c
 let lits:=ops.filterMap fun o=>match o.op with| .buildSlice .. =>o.dst|_=>none
 let dsts:=ops.flatMap fun o=>match o.op with
  | .call {callee:= .builtin .append,args,.. }=>match args.toList with|(.tmp a)::_=> [a,viaMove ops a]|_=> []
  | .call {callee:= .builtin .copy,args,.. }=>match args.toList with|(.tmp a)::_=> [a,viaMove ops a]|_=> []
  | .store _ (.tmp a) _=>match defOf ops a with|some (.indexAddr _ (.tmp q) _)=> [q,viaMove ops q]|_=> []
  | .convert s t (.tmp a)=>if s=t then [a] else []
  |_=> []
 lits.filter fun t=>dsts.contains t||ops.any fun o=>match o.op,o.dst with| .assign (.tmp x),some v=>x==t&&dsts.contains v|_,_=>false
/-- Appends onto a row that is read again (no proof looks in here). -/
def readsAgain (t v:Nat):List Oper→Bool
 | []=>false
 |o::l=>(tmpsOf o.op).any (fun x=>x==t||x==v)||(match o.op,o.dst with| .assign _,some d=>if d==v then false else readsAgain t v l|_,_=>readsAgain t v l)
def keepsL (ops:List Oper):List Oper→List Nat
 | []=> []
 |o::l=>(match o.op,o.dst with
  | .call {callee:= .builtin .append,args,.. },some d=>match args.toList with
   |(.tmp a)::_=>if readsAgain a (viaMove ops a) l then [d] else []
   |_=> []
  |_,_=> [])++keepsL ops l
def keepsOf (c:Code):List Nat:=keepsL (allOps c) (allOps c)
/-- Literals of bytes that are turned to their own type (no proof looks in here). -/
def marksOf (c:Code):List Nat:=
 let ops:=allOps c
 ops.filterMap fun o=>match o.op with
  | .convert s t (.tmp a)=>if s=t then (match defOf ops a with|some (.buildSlice ..)=>o.dst|_=>none) else none
  |_=>none
/-- What a function hands back. -/
def retX (P:Program) (S:SS):List ResultVar→Option (List (Sh×E))
 | []=>some []
 | .tmp t::l=>match (S.ev P [] (.tmp t) 0).bind (datOf S.rb []),retX P S l with
  |some (s,e,_),some r=>some ((s,e)::r)
  |_,_=>none
 | .cell t ty::l=>match (loadX P S.rb [] ty (S.ev P [] (.tmp t) 0)).bind (fun o=>datOf S.rb [] o.x),retX P S l with
  |some (s,e,_),some r=>some ((s,e)::r)
  |_,_=>none
def startSS (shs:List Sh) (n:Nat):SS:=
 {tmps:=(retVars 0 shs).map (fun (s,e)=>⟨[],.dat s e⟩)++List.replicate (n-shs.length) ⟨[],.none⟩,blks:=List.replicate (n+16) ⟨.none,false,[]⟩,nv:=shs.length}
def fnVC (P:Program) (cfg:Cfg) (hints:List Hint) (fn:Func) (shs:List Sh):VC:=
 match fn.body with
 |none=> .fail 8000000
 |some c=>sx P cfg hints c (startSS shs fn.ntmps) 0 fun e S _=>match e with
  | .exit _=> .fail 8000001
  |_=>match retX P S fn.results.toList with
   |some rs=> .ret rs
   |none=> .fail 8000002
/-- Each slice in it is nil, by the text. -/
def nilOk:Sh→E→Bool
 | .sl _,.nilS=>true
 | .sl _,_=>false
 | .pair a b,.cons x y=>nilOk a x&&nilOk b y
 | .pair a b,_=>a.prim&&b.prim
 | .ifc _ _,_| .mp _ _,_=>false
 |_,_=>true
def fnVCN (P:Program) (cfg:Cfg) (hints:List Hint) (fn:Func) (shs:List Sh):VC:=
 match fn.body with
 |none=> .fail 8000000
 |some c=>sx P cfg hints c (startSS shs fn.ntmps) 0 fun e S _=>match e with
  | .exit _=> .fail 8000001
  |_=>match fn.results.toList with
   | [.tmp t]=>match S.ev P [] (.tmp t) 0 with
    |some (.dat s e)=>if nilOk s e then .ret [(s,e)] else .fail 8000004
    |_=> .fail 8000002
   | [.cell t ty]=>match loadX P S.rb [] ty (S.ev P [] (.tmp t) 0) with
    |some ⟨.dat s e,_,_,_⟩=>if nilOk s e then .ret [(s,e)] else .fail 8000004
    |_=> .fail 8000002
   |_=> .fail 8000002
/-! A row of the caller's own comes in, or a new one goes out. -/
def retF (P:Program) (S:SS):List ResultVar→Option (List (Sh×E)×List Nat)
 | []=>some ([],[])
 | .tmp t::l=>match (S.ev P [] (.tmp t) 0).bind (datOf S.rb []),retF P S l with
  |some (s,e,f),some (r,g)=>some ((s,e)::r,f++g)
  |_,_=>none
 | .cell .. ::_=>none
def retO (P:Program) (S:SS):List ResultVar→Option (List (Sh×E))
 | .tmp t::l=>match S.ev P [] (.tmp t) 0 with
  |some (.full r _)=>match ownRow S.blks r,retF P S l with
   |some (s,e),some (rs,fz)=>if !fz.contains r then some ((.sl s,e)::rs) else none
   |_,_=>none
  |some (.dat (.sl s) .nilS)=>match retF P S l with
   |some (rs,_)=>some ((.sl s,.nilS)::rs)
   |none=>none
  |_=>none
 |_=>none
def startG (s:Sh) (shs:List Sh) (n:Nat):SS:=
 {tmps:=(⟨[],.full (n+16) (.len (.var 0))⟩::(retVars 1 shs).map (fun (s,e)=>⟨[],.dat s e⟩))++List.replicate (n-(shs.length+1)) ⟨[],.none⟩,
  blks:=List.replicate (n+16) ⟨.none,false,[]⟩++ [⟨.row s (.var 0),false,[]⟩],nv:=shs.length+1}
def fnVCG (P:Program) (cfg:Cfg) (hints:List Hint) (fn:Func) (s:Sh) (shs:List Sh):VC:=
 if s.size !=0 then match fn.body with
 |none=> .fail 8000000
 |some c=>sx P cfg hints c (startG s shs fn.ntmps) 0 fun e S _=>match e with
  | .exit _=> .fail 8000001
  |_=>match retO P S fn.results.toList with
   |some rs=> .ret rs
   |none=> .fail 8000002
 else .fail 8000003
def fnVCF (P:Program) (cfg:Cfg) (hints:List Hint) (fn:Func) (shs:List Sh):VC:=
 match fn.body with
 |none=> .fail 8000000
 |some c=>sx P cfg hints c (startSS shs fn.ntmps) 0 fun e S _=>match e with
  | .exit _=> .fail 8000001
  |_=>match retO P S fn.results.toList with
   |some rs=> .ret rs
   |none=> .fail 8000002
end Go.Vc

namespace Go.Vc
open Go.RowKit

/-- What a call begins with: the world, and which of its blocks are the call's own from the start. -/
structure Wb where
 w:World
 G:Nat→Prop
def Wb.own (w0:Wb) (b:Nat):Prop:=w0.w.heap.size≤b∨w0.G b
/-- Of what was there, and is not the call's own, nothing has turned. -/
structure BelowG (P:Program) (w0:Wb) (w:World):Prop where
 os:w.os=w0.w.os
 tape:w.tape=w0.w.tape
 output:w.output=w0.w.output
 size:w0.w.heap.size≤w.heap.size
 block:∀k,k<w0.w.heap.size→¬w0.G k→w.heap[k]?=w0.w.heap[k]?
 kw:KW P w0.w
 kb:∀g,KWb P g→¬w0.G g
def liveB (k:Blk):Bool:=match k.lb with| .row .. | .box _| .mp .. | .sit .. =>true|_=>false
/-- The blocks that immutable data may lie in. -/
def NN (N0:Nat→Prop) (B:Nat→Prop) (ρ:List C) (bs:List Blk) (hv:Nat→Value) (b:Nat):Prop:=
 (N0 b∨B b)∧∀r k,bs[r]?=some k→liveB k=true→k.froz=false→presTrue ρ k.pres→blkNo (hv r)≠some b
/-- Where the expression says nil, nil stands. -/
def Exact:Sh→E→List Value→Prop
 | .sl _,.nilS,vs=>vs=[.slice none 0 0]
 | .pair a b,.cons x y,vs=>∃va vb,vs=va++vb∧va.length=a.size∧Exact a x va∧Exact b y vb
 |_,_,_=>True
def rowIn (bs:List Blk) (r:Nat):Option (Sh×E×Pres):=match bs[r]? with|some ⟨.row s e,_,p⟩=>some (s,e,p)|_=>none
def boxIn (bs:List Blk) (r:Nat):Option (List SX×Pres):=match bs[r]? with|some ⟨.box cs,_,p⟩=>some (cs,p)|_=>none
def mapIn (bs:List Blk) (r:Nat):Option (IntKind×Sh×E×Pres):=match bs[r]? with|some ⟨.mp k s e,_,p⟩=>some (k,s,e,p)|_=>none
/-- A block that is held. -/
def LiveAt (bs:List Blk) (ρ:List C) (r:Nat):Prop:=∃k,bs[r]?=some k∧liveB k=true∧presTrue ρ k.pres
/-- The block has been made. -/
def known (bs:List Blk) (r:Nat):Prop:=∃k,bs[r]?=some k∧k.lb≠ .none
/-- What a value is, by what the symbolic state says of it. -/
def RdX (w : World) (N : Nat → Prop) (ρ : List C) (bs : List Blk) (hv : Nat → Value) : SX → Value → Prop
  | .none, _ => True
  | .dat s e, v => ∃ vs, Rd w N s vs (e.eval ρ) ∧ v = s.mk vs ∧ Exact s e vs
  | .res l, v => (∃ vs, v = .tuple vs.toArray ∧ RdVs w N (evalArgs ρ l) vs) ∧ ∀ x ∈ l, ∀ vs, Exact x.1 x.2 vs
  | .resO r n l, v => known bs r ∧ ∃ v1 vr, v = .tuple (v1 :: vr).toArray ∧ (∀ s e p, rowIn bs r = some (s, e, p) → presTrue ρ p → v1 = hv r ∧ (n.eval ρ).toInt = ((e.eval ρ).toList.length : Int)) ∧
      RdVs w N (evalArgs ρ l) vr ∧ ∀ x ∈ l, ∀ vs, Exact x.1 x.2 vs
  | .full r n, v => known bs r ∧ ∀ s e p, rowIn bs r = some (s, e, p) → presTrue ρ p → v = hv r ∧ (n.eval ρ).toInt = ((e.eval ρ).toList.length : Int)
  | .view r off n, v => known bs r ∧ ∀ s e p, rowIn bs r = some (s, e, p) → presTrue ρ p → ∃ o m : Nat, (off.eval ρ).toInt = (o : Int) ∧ (n.eval ρ).toInt = (m : Int) ∧ o + m ≤ (e.eval ρ).toList.length ∧
      ∃ a cap, v = .slice a m cap ∧ m ≤ cap ∧ cap ≤ maxLen ∧ (0 < m → ∃ g, blkNo (hv r) = some g ∧ a = some ⟨g, o * s.size, none⟩)
  | .ref r i fo s fld, v => known bs r ∧ (∀ es e p, rowIn bs r = some (es, e, p) → presTrue ρ p → ∃ o g : Nat, (i.eval ρ).toInt = (o : Int) ∧ o < (e.eval ρ).toList.length ∧ blkNo (hv r) = some g ∧ v = .pointer (some ⟨g, o * es.size + fo, none⟩) ∧
        (match fld with | none => fo = 0 ∧ s = es | some j => es.fld j = some (s, fo))) ∧
      (∀ cs p, boxIn bs r = some (cs, p) → presTrue ρ p → ∃ g, blkNo (hv r) = some g ∧ v = .pointer (some ⟨g, fo, none⟩))
  | .ptr s e, v => ∃ b off us, v = .pointer (some ⟨b, off, none⟩) ∧ N b ∧ b < w.heap.size ∧ CellsAt w b off us ∧ Rd w N s us (e.eval ρ) ∧ Exact s e us
  | .fn f, v => v = .func (.func f) #[] #[]
  | .nilq e, v => ∃ b : Bool, v = .bool b ∧ (b = true → (e.eval ρ).toList = [])
  | .meth t s name, v => ∃ us, v = .func (.method name) #[.iface t (s.mk us)] #[]
  | .mpo r, v => known bs r ∧ v = hv r
  | .ito r, v => known bs r ∧ v = hv r
  | .nxt s p, v => ∃ q : Nat, (p.eval ρ).toInt = (q : Int) ∧ v = if q < (s.eval ρ).toStr.length then .tuple #[.bool true, .int .i64 (q : Int), .int .i32 ((Utf8.decode ⟨(s.eval ρ).toStr.toArray⟩ q).1 : Nat)] else .tuple #[.bool false]
  | .okF, v => ∃ z, v = .tuple #[z, .bool false]
def RdXs (w:World) (N:Nat→Prop) (ρ:List C) (bs:List Blk) (hv:Nat→Value):List SX→List Value→Prop
 | [],vs=>vs=[]
 |x::l,vs=>∃v r,vs=v::r∧RdX w N ρ bs hv x v∧RdXs w N ρ bs hv l r
def BlkOk (w:World) (B:Nat→Prop) (N:Nat→Prop) (ρ:List C) (bs:List Blk) (hv:Nat→Value) (r:Nat):LB→Prop
 | .row s e=>∃et xs,w.ownsR B et s.size (hv r) (e.eval ρ).toList.length xs∧RdRow w N s xs (e.eval ρ).toList∧0<s.size
 | .box cs=>∃g bt arr,hv r= .pointer (some ⟨g,0,none⟩)∧B g∧w.heap[g]?=some (.cells arr bt (0,0))∧RdXs w N ρ bs hv cs arr.toList
 | .mp k s e=>∃g l,hv r= .map (some g)∧B g∧MapIs w g k l∧MapRd (fun v d=>Rd w N s [v] d) l (e.eval ρ).toList
 | .sit s p=>∃(g q:Nat),hv r= .pointer (some ⟨g,0,none⟩)∧B g∧(p.eval ρ).toInt=(q:Int)∧w.heap[g]?=some (.stringIter ⟨(s.eval ρ).toStr.toArray⟩ q)
 |_=>True
structure RelH (P:Program) (N0:Nat→Prop) (w0:Wb) (ρ:List C) (S:SS) (hv:Nat→Value) (a:Act) (w:World):Prop where
 defers:a.defers=[]
 tsz:a.tmps.size=S.tmps.length
 below:BelowG P w0 w
 tmps:∀t ts,S.tmps[t]?=some ts→presTrue ρ ts.pres→RdX w (NN N0 w0.own ρ S.blks hv) ρ S.blks hv ts.sx (a.tmps.getD t undef)
 und:∀t ts,S.tmps[t]?=some ts→¬presTrue ρ ts.pres→a.tmps.getD t undef=undef
 blks:∀r k,S.blks[r]?=some k→presTrue ρ k.pres→BlkOk w w0.own (NN N0 w0.own ρ S.blks hv) ρ S.blks hv r k.lb
 dist:∀r r' k k' g,S.blks[r]?=some k→S.blks[r']?=some k'→r≠r'→liveB k=true→liveB k'=true→presTrue ρ k.pres→presTrue ρ k'.pres→
  blkNo (hv r)=some g→blkNo (hv r')≠some g
theorem presTrue_nil (ρ:List C):presTrue ρ []:=fun _ h=>by cases h
theorem presTrue_app {ρ:List C} {p q:Pres}:presTrue ρ (p++q)↔presTrue ρ p∧presTrue ρ q:=by
 unfold presTrue
 constructor
 ·exact fun h=>⟨fun x hx=>h x (List.mem_append.2 (.inl hx)),fun x hx=>h x (List.mem_append.2 (.inr hx))⟩
 ·rintro ⟨h1,h2⟩ x hx
  rcases List.mem_append.1 hx with h|h
  ·exact h1 x h
  ·exact h2 x h
theorem presTrue_one {ρ:List C} {e:E} {b:Bool}:presTrue ρ [(e,b)]↔(e.eval ρ).toBool=b:=by
 simp[presTrue]
theorem presSub_true {ρ:List C} {p q:Pres} (h:presSub p q=true) (hq:presTrue ρ q):presTrue ρ p:=by
 intro x hx
 simp only[presSub,List.all_eq_true,List.any_eq_true,Bool.and_eq_true,decide_eq_true_eq,beq_iff_eq] at h
 obtain ⟨y,hy,h1,h2⟩:=h x hx
 rw[h1,h2]
 exact hq y hy
/-- Readings through rows: cells in memory. -/
theorem RdRow.length {w:World} {N:Nat→Prop} {s:Sh}:∀ {l:List C} {xs:List Value},RdRow w N s xs l→xs.length=l.length*s.size
 | [],_,h=>by simp only[RdRow] at h;subst h;simp
 |c::l,_,⟨u,r,h1,h2,h3⟩=>by
  subst h1
  simp[h2.length,RdRow.length h3,Nat.add_mul,Nat.add_comm]
theorem RdRow.mono {w w':World} {N N':Nat→Prop} (hs:w.heap.size≤w'.heap.size) (hk:∀b,N b→b<w.heap.size→w'.heap[b]?=w.heap[b]?∧N' b) {s:Sh}:
  ∀ {l:List C} {xs:List Value},RdRow w N s xs l→RdRow w' N' s xs l
 | [],_,h=>h
 |_::_,_,⟨u,r,h1,h2,h3⟩=>⟨u,r,h1,h2.mono hs hk,RdRow.mono hs hk h3⟩
theorem RdRow.append {w:World} {N:Nat→Prop} {s:Sh}:∀ {l m:List C} {xs ys:List Value},RdRow w N s xs l→RdRow w N s ys m→RdRow w N s (xs++ys) (l++m)
 | [],_,_,_,h,h'=>by simp only[RdRow] at h;subst h;simpa using h'
 |_::_,_,_,_,⟨u,r,h1,h2,h3⟩,h'=>⟨u,r++_,by rw[h1,List.append_assoc],h2,RdRow.append h3 h'⟩
/-- The cells of the i-th element. -/
theorem RdRow.at_ {w:World} {N:Nat→Prop} {s:Sh}:∀ {l:List C} {xs:List Value} {i:Nat} {c:C},RdRow w N s xs l→l[i]?=some c→
  Rd w N s ((xs.drop (i*s.size)).take s.size) c
 | [],_,_,_,_,hi=>by simp at hi
 |c::l,_,0,c',⟨u,r,h1,h2,h3⟩,hi=>by
  simp at hi
  subst hi h1
  simp[←h2.length]
  exact h2
 |c::l,_,i+1,c',⟨u,r,h1,h2,h3⟩,hi=>by
  subst h1
  have h4:=RdRow.at_ h3 (by simpa using hi)
  have e1:(u++r).drop ((i+1)*s.size)=r.drop (i*s.size):=by
   rw[Nat.add_mul,Nat.one_mul,←h2.length,Nat.add_comm,List.drop_append]
   simp
  rw[e1]
  exact h4
theorem RdRow.drop {w:World} {N:Nat→Prop} {s:Sh}:∀ {l:List C} {xs:List Value} (i:Nat),RdRow w N s xs l→RdRow w N s (xs.drop (i*s.size)) (l.drop i)
 | [],_,i,h=>by simp only[RdRow] at h;subst h;simp[RdRow]
 |_::_,_,0,h=>by simpa using h
 |_::l,_,i+1,⟨u,r,h1,h2,h3⟩=>by
  subst h1
  have h4:=RdRow.drop i h3
  have e1:(u++r).drop ((i+1)*s.size)=r.drop (i*s.size):=by
   rw[Nat.add_mul,Nat.one_mul,←h2.length,Nat.add_comm,List.drop_append]
   simp
  rw[e1]
  simpa using h4
theorem RdRow.take {w:World} {N:Nat→Prop} {s:Sh}:∀ {l:List C} {xs:List Value} (i:Nat),RdRow w N s xs l→RdRow w N s (xs.take (i*s.size)) (l.take i)
 | [],_,i,h=>by simp only[RdRow] at h;subst h;simp[RdRow]
 |_::_,_,0,h=>by simp[RdRow]
 |_::l,_,i+1,⟨u,r,h1,h2,h3⟩=>by
  subst h1
  have h4:=RdRow.take i h3
  refine ⟨u,r.take (i*s.size),?_,h2,h4⟩
  rw[Nat.add_mul,Nat.one_mul,←h2.length,Nat.add_comm,List.take_append]
  simp
  exact List.take_of_length_le (by omega)
theorem RdRow.set {w:World} {N:Nat→Prop} {s:Sh} {l:List C} {xs:List Value} {i:Nat} {u:List Value} {c:C} (h:RdRow w N s xs l) (hi:i<l.length) (hu:Rd w N s u c):
  RdRow w N s (xs.take (i*s.size)++(u++xs.drop ((i+1)*s.size))) (l.set i c):=by
 have e:l.set i c=l.take i++(c::l.drop (i+1)):=by
  rw[List.set_eq_take_append_cons_drop,if_pos hi]
 rw[e]
 exact (h.take i).append ⟨u,_,rfl,hu,h.drop (i+1)⟩
/-- A row that stands in memory. -/
theorem RowAt.of_row {w:World} {N:Nat→Prop} {s:Sh} {b off:Nat}:∀ {l:List C} {xs:List Value},RdRow w N s xs l→CellsAt w b off xs→RowAt w s.size (Rd w N s) b off l:=by
 intro l xs h hc i c hi
 refine ⟨_,(h.at_ hi).length,fun j u hu=>?_,h.at_ hi⟩
 rw[List.getElem?_take] at hu
 split at hu
 ·rw[List.getElem?_drop] at hu
  have:=hc _ _ hu
  rwa[←Nat.add_assoc] at this
 ·cases hu
theorem RowAt.row {w:World} {N:Nat→Prop} {s:Sh} {b:Nat}:∀ {l:List C} {off:Nat},RowAt w s.size (Rd w N s) b off l→∃xs,RdRow w N s xs l∧CellsAt w b off xs
 | [],_,_=>⟨[],rfl,fun _ _ h=>by simp at h⟩
 |c::l,off,h=>by
  obtain ⟨u,hl,hu,hr⟩:=h 0 c rfl
  obtain ⟨xs,h1,h2⟩:=RowAt.row (l:=l) (off:=off+s.size) fun i c hi=>by
   obtain ⟨us,h3,h4,h5⟩:=h (i+1) c (by simpa using hi)
   exact ⟨us,h3,by rw[Nat.add_assoc,show s.size+i*s.size=(i+1)*s.size by rw[Nat.add_mul,Nat.one_mul,Nat.add_comm]];exact h4,h5⟩
  refine ⟨u++xs,⟨u,xs,rfl,hr,h1⟩,fun j v hv=>?_⟩
  rw[List.getElem?_append] at hv
  split at hv
  ·have:=hu j v hv
   simpa using this
  ·have:=h2 _ v hv
   rw[hl,Nat.add_assoc,Nat.add_sub_cancel' (by omega)] at this
   exact this
/-- More is known, nothing otherwise. -/
structure BsLe (ρ:List C) (bs bs':List Blk) (hv hv':Nat→Value):Prop where
 known:∀r,known bs r→known bs' r∧hv' r=hv r
 row:∀r s e' p,Vc.known bs r→rowIn bs' r=some (s,e',p)→∃e,rowIn bs r=some (s,e,p)∧(e.eval ρ).toList.length=(e'.eval ρ).toList.length
 box:∀r cs' p,Vc.known bs r→boxIn bs' r=some (cs',p)→∃cs,boxIn bs r=some (cs,p)
theorem BsLe.refl (ρ:List C) (bs:List Blk) (hv:Nat→Value):BsLe ρ bs bs hv hv:=⟨fun _ h=>⟨h,rfl⟩,fun _ _ e _ _ h=>⟨e,h,rfl⟩,fun _ cs _ _ h=>⟨cs,h⟩⟩
theorem RdX.le {w w':World} {N N':Nat→Prop} {ρ:List C} {bs bs':List Blk} {hv hv':Nat→Value} (hs:w.heap.size≤w'.heap.size)
  (hk:∀b,N b→b<w.heap.size→w'.heap[b]?=w.heap[b]?∧N' b) (le:BsLe ρ bs bs' hv hv') {x:SX} {v:Value} (h:RdX w N ρ bs hv x v):RdX w' N' ρ bs' hv' x v:=by
 cases x with
 |none=>trivial
 |dat s e=>obtain ⟨vs,h1,h2,h3⟩:=h;exact ⟨vs,h1.mono hs hk,h2,h3⟩
 |res l=>obtain ⟨⟨vs,h1,h2⟩,h3⟩:=h;exact ⟨⟨vs,h1,h2.mono hs hk⟩,h3⟩
 |resO r n l=>
  obtain ⟨hkn,v1,vr,h1,h2,h3,h4⟩:=h
  refine ⟨(le.known r hkn).1,v1,vr,h1,fun s e' p hr hp=>?_,h3.mono hs hk,h4⟩
  obtain ⟨e,he,hl⟩:=le.row r s e' p hkn hr
  rw[(le.known r hkn).2,←hl]
  exact h2 s e p he hp
 |full r n=>
  obtain ⟨hkn,h⟩:=h
  refine ⟨(le.known r hkn).1,fun s e' p hr hp=>?_⟩
  obtain ⟨e,he,hl⟩:=le.row r s e' p hkn hr
  rw[(le.known r hkn).2,←hl]
  exact h s e p he hp
 |view r off n=>
  obtain ⟨hkn,h⟩:=h
  refine ⟨(le.known r hkn).1,fun s e' p hr hp=>?_⟩
  obtain ⟨e,he,hl⟩:=le.row r s e' p hkn hr
  rw[(le.known r hkn).2,←hl]
  exact h s e p he hp
 |ref r i fo s fld=>
  obtain ⟨hkn,h,h'⟩:=h
  refine ⟨(le.known r hkn).1,fun es e' p hr hp=>?_,fun cs' p hr hp=>?_⟩
  ·obtain ⟨e,he,hl⟩:=le.row r es e' p hkn hr
   rw[(le.known r hkn).2,←hl]
   exact h es e p he hp
  ·obtain ⟨cs,hc⟩:=le.box r cs' p hkn hr
   rw[(le.known r hkn).2]
   exact h' cs p hc hp
 |ptr s e=>
  obtain ⟨b,off,us,h1,h2,h3,h4,h5,h6⟩:=h
  exact ⟨b,off,us,h1,(hk b h2 h3).2,Nat.lt_of_lt_of_le h3 hs,h4.mono (hk b h2 h3).1,h5.mono hs hk,h6⟩
 |fn f=>exact h
 |nilq e=>exact h
 |meth t s n=>exact h
 |mpo r=>obtain ⟨hkn,h⟩:=h;exact ⟨(le.known r hkn).1,by rw[(le.known r hkn).2];exact h⟩
 |ito r=>obtain ⟨hkn,h⟩:=h;exact ⟨(le.known r hkn).1,by rw[(le.known r hkn).2];exact h⟩
 |nxt s p=>exact h
 |okF=>exact h
theorem RdXs.le {w w':World} {N N':Nat→Prop} {ρ:List C} {bs bs':List Blk} {hv hv':Nat→Value} (hs:w.heap.size≤w'.heap.size)
  (hk:∀b,N b→b<w.heap.size→w'.heap[b]?=w.heap[b]?∧N' b) (le:BsLe ρ bs bs' hv hv'):∀ {l:List SX} {vs:List Value},RdXs w N ρ bs hv l vs→RdXs w' N' ρ bs' hv' l vs
 | [],_,h=>h
 |_::_,_,⟨v,r,h1,h2,h3⟩=>⟨v,r,h1,h2.le hs hk le,RdXs.le hs hk le h3⟩
theorem ownsRow_keep {w w':World} {B:Nat→Prop} {et:TypeId} {size:Nat} {v:Value} {n:Nat} {xs:List Value} (h:w.ownsR B et size v n xs)
  (hb:∀g,blkNo v=some g→w'.heap[g]?=w.heap[g]?):w'.ownsR B et size v n xs:=by
 obtain ⟨h1,h2⟩:=h
 refine ⟨h1,?_⟩
 rcases h2 with h2|⟨g,cap,cur,h3,h4,h5,h6⟩
 ·exact .inl h2
 ·refine .inr ⟨g,cap,cur,h3,h4,?_,h6⟩
  rw[hb g (by rw[h3];rfl)]
  exact h5
/-- A block of the call's own whose memory is as it was. -/
theorem BlkOk.le {w w':World} {B:Nat→Prop} {N N':Nat→Prop} {ρ:List C} {bs bs':List Blk} {hv hv':Nat→Value} (hs:w.heap.size≤w'.heap.size)
  (hk:∀b,N b→b<w.heap.size→w'.heap[b]?=w.heap[b]?∧N' b) (le:BsLe ρ bs bs' hv hv') {r:Nat} {lb:LB} (hr:hv' r=hv r)
  (hb:∀g,blkNo (hv r)=some g→w'.heap[g]?=w.heap[g]?) (h:BlkOk w B N ρ bs hv r lb):BlkOk w' B N' ρ bs' hv' r lb:=by
 cases lb with
 |none=>trivial
 |dead=>trivial
 |row s e=>
  obtain ⟨et,xs,h1,h2,h3⟩:=h
  refine ⟨et,xs,?_,h2.mono hs hk,h3⟩
  rw[hr]
  exact ownsRow_keep h1 hb
 |box cs=>
  obtain ⟨g,bt,arr,h1,h2,h3,h4⟩:=h
  refine ⟨g,bt,arr,by rw[hr];exact h1,h2,?_,h4.le hs hk le⟩
  rw[hb g (by rw[h1];rfl)]
  exact h3
 |mp k s e=>
  obtain ⟨g,l,h1,h2,h3,h4⟩:=h
  exact ⟨g,l,by rw[hr];exact h1,h2,h3.same (hb g (by rw[h1];rfl)),h4.imp fun _ _ h=>h.mono hs hk⟩
 |sit s p=>
  obtain ⟨g,q,h1,h2,h3,h4⟩:=h
  exact ⟨g,q,by rw[hr];exact h1,h2,h3,by rw[hb g (by rw[h1];rfl)];exact h4⟩
theorem BelowG.trans {P:Program} {w0:Wb} {w w':World} (h:BelowG P w0 w) (hg:Below w.heap.size w w'):BelowG P w0 w':=
 ⟨hg.os.trans h.os,hg.tape.trans h.tape,hg.output.trans h.output,Nat.le_trans h.size hg.size,fun k hk hn=>(hg.block k (Nat.lt_of_lt_of_le hk h.size)).trans (h.block k hk hn),h.kw,h.kb⟩
theorem BelowG.after {P:Program} {w0:Wb} {w w':World} (h:BelowG P w0 w) (h1:w'.os=w.os) (h2:w'.tape=w.tape) (h3:w'.output=w.output) (hs:w.heap.size≤w'.heap.size)
  (hk:∀k,k<w.heap.size→¬w0.own k→w'.heap[k]?=w.heap[k]?):BelowG P w0 w':=
 ⟨h1.trans h.os,h2.trans h.tape,h3.trans h.output,Nat.le_trans h.size hs,fun k hk' hn=>
  (hk k (Nat.lt_of_lt_of_le hk' h.size) (fun ho=>ho.elim (fun hle=>Nat.lt_irrefl _ (Nat.lt_of_lt_of_le hk' hle)) hn)).trans (h.block k hk' hn),h.kw,h.kb⟩
theorem BelowG.now {P:Program} {w0:Wb} {w:World} (h:BelowG P w0 w):KW P w:=h.kw.keep fun g hg=>h.block g (h.kw.lt hg) (h.kb g hg)
theorem BelowG.own {P:Program} {w0:Wb} {w:World} (h:BelowG P w0 w) {g:Nat} (ho:w0.own g):¬KWb P g:=fun hg=>ho.elim (fun hle=>Nat.lt_irrefl _ (Nat.lt_of_lt_of_le (h.kw.lt hg) hle)) (h.kb g hg)
/-- The general step: other blocks, another world. -/
theorem RelH.step {P:Program} {N0:Nat→Prop} {w0:Wb} {ρ:List C} {S:SS} {hv hv':Nat→Value} {a:Act} {w w':World} {bs':List Blk} (h:RelH P N0 w0 ρ S hv a w)
  (le:BsLe ρ S.blks bs' hv hv') (hb:BelowG P w0 w') (hs:w.heap.size≤w'.heap.size)
  (hk:∀b,NN N0 w0.own ρ S.blks hv b→b<w.heap.size→w'.heap[b]?=w.heap[b]?∧NN N0 w0.own ρ bs' hv' b)
  (hblk:∀r k,bs'[r]?=some k→presTrue ρ k.pres→BlkOk w' w0.own (NN N0 w0.own ρ bs' hv') ρ bs' hv' r k.lb)
  (hd:∀r r' k k' g,bs'[r]?=some k→bs'[r']?=some k'→r≠r'→liveB k=true→liveB k'=true→presTrue ρ k.pres→presTrue ρ k'.pres→blkNo (hv' r)=some g→blkNo (hv' r')≠some g):
  RelH P N0 w0 ρ {S with blks:=bs'} hv' a w':=
 ⟨h.defers,h.tsz,hb,fun t ts ht hp=>(h.tmps t ts ht hp).le hs hk le,h.und,hblk,hd⟩
/-- A world that has only grown. -/
theorem RelH.grow {P:Program} {N0:Nat→Prop} {w0:Wb} {ρ:List C} {S:SS} {hv:Nat→Value} {a:Act} {w w':World} (h:RelH P N0 w0 ρ S hv a w)
  (hg:Below w.heap.size w w'):RelH P N0 w0 ρ S hv a w':=by
 have hlt:∀r k g,S.blks[r]?=some k→liveB k=true→presTrue ρ k.pres→blkNo (hv r)=some g→g<w.heap.size:=by
  intro r k g hr hl hp hg
  have hb:=h.blks r k hr hp
  obtain ⟨lb,f,p⟩:=k
  cases lb with
  |none=>cases hl
  |dead=>cases hl
  |row s e=>
   obtain ⟨et,xs,⟨_,h2⟩,_⟩:=hb
   rcases h2 with ⟨h2,_⟩|⟨g',cap,cur,h3,_,h5,_⟩
   ·rw[h2] at hg;cases hg
   ·rw[h3] at hg
    injection hg with hg
    subst hg
    exact (Array.getElem?_eq_some_iff.1 h5).1
  |box cs=>
   obtain ⟨g',bt,arr,h1,_,h3,_⟩:=hb
   rw[h1] at hg
   injection hg with hg
   subst hg
   exact (Array.getElem?_eq_some_iff.1 h3).1
  |mp k s e=>
   obtain ⟨g',l,h1,_,⟨es,cl,h3,_⟩,_⟩:=hb
   rw[h1] at hg
   injection hg with hg
   subst hg
   exact (Array.getElem?_eq_some_iff.1 h3).1
  |sit s p=>
   obtain ⟨g',q,h1,_,_,h3⟩:=hb
   rw[h1] at hg
   injection hg with hg
   subst hg
   exact (Array.getElem?_eq_some_iff.1 h3).1
 have hkeep:∀b,b<w.heap.size→w'.heap[b]?=w.heap[b]?:=fun b hb=>hg.block b hb
 have hbel:BelowG P w0 w':=h.below.trans hg
 have hk:∀b,NN N0 w0.own ρ S.blks hv b→b<w.heap.size→w'.heap[b]?=w.heap[b]?∧NN N0 w0.own ρ S.blks hv b:=fun b hn hb=>⟨hkeep b hb,hn⟩
 refine ⟨h.defers,h.tsz,hbel,fun t ts ht hp=>(h.tmps t ts ht hp).le hg.size hk (BsLe.refl _ _ _),h.und,fun r k hr hp=>?_,h.dist⟩
 by_cases hl:liveB k=true
 ·exact (h.blks r k hr hp).le hg.size hk (BsLe.refl _ _ _) rfl fun g hgg=>hkeep g (hlt r k g hr hl hp hgg)
 ·obtain ⟨lb,f,p⟩:=k
  cases lb with
  |none=>trivial
  |dead=>trivial
  |row s e=>exact absurd rfl hl
  |box cs=>exact absurd rfl hl
  |mp _ _ _=>exact absurd rfl hl
  |sit _ _=>exact absurd rfl hl
/-- The block of a row or a box is there. -/
theorem RelH.lt {P:Program} {N0:Nat→Prop} {w0:Wb} {ρ:List C} {S:SS} {hv:Nat→Value} {a:Act} {w:World} (h:RelH P N0 w0 ρ S hv a w) {r:Nat} {k:Blk} {g:Nat}
  (hr:S.blks[r]?=some k) (hl:liveB k=true) (hp:presTrue ρ k.pres) (hg:blkNo (hv r)=some g):g<w.heap.size∧w0.own g:=by
 have hb:=h.blks r k hr hp
 obtain ⟨lb,f,p⟩:=k
 cases lb with
 |none=>cases hl
 |dead=>cases hl
 |row s e=>
  obtain ⟨et,xs,⟨_,h2⟩,_⟩:=hb
  rcases h2 with ⟨h2,_⟩|⟨g',cap,cur,h3,h4,h5,_⟩
  ·rw[h2] at hg;cases hg
  ·rw[h3] at hg
   injection hg with hg
   subst hg
   exact ⟨(Array.getElem?_eq_some_iff.1 h5).1,h4⟩
 |box cs=>
  obtain ⟨g',bt,arr,h1,h2,h3,_⟩:=hb
  rw[h1] at hg
  injection hg with hg
  subst hg
  exact ⟨(Array.getElem?_eq_some_iff.1 h3).1,h2⟩
 |mp k s e=>
  obtain ⟨g',l,h1,h2,⟨es,cl,h3,_⟩,_⟩:=hb
  rw[h1] at hg
  injection hg with hg
  subst hg
  exact ⟨(Array.getElem?_eq_some_iff.1 h3).1,h2⟩
 |sit s p=>
  obtain ⟨g',q,h1,h2,_,h3⟩:=hb
  rw[h1] at hg
  injection hg with hg
  subst hg
  exact ⟨(Array.getElem?_eq_some_iff.1 h3).1,h2⟩
theorem RelH.drew {P:Program} {N0:Nat→Prop} {w0:Wb} {ρ:List C} {S:SS} {hv:Nat→Value} {a:Act} {w:World} (h:RelH P N0 w0 ρ S hv a w) (n:Nat):
  RelH P N0 w0 ρ S hv a {w with drawn:=n}:=h.grow ⟨rfl,rfl,rfl,Nat.le_refl _,fun _ _=>rfl⟩
theorem getD_put {a:Act} {d:Option Tmp} {v:Value} {t:Nat}:(a.put d v).tmps.getD t undef=if d=some t∧t<a.tmps.size then v else a.tmps.getD t undef:=by
 cases d with
 |none=>simp[Act.put]
 |some d=>
  simp only[Act.put,Option.some.injEq]
  by_cases h:d=t
  ·subst h
   by_cases hs:d<a.tmps.size
   ·simp[hs]
   ·simp[hs]
  ·simp[h]
/-- A temporary has been written. -/
theorem RelH.put {P:Program} {N0:Nat→Prop} {w0:Wb} {ρ:List C} {S:SS} {hv:Nat→Value} {a:Act} {w:World} (h:RelH P N0 w0 ρ S hv a w) (d:Option Tmp) (p:Pres) (x:SX) (v:Value)
  (hx:presTrue ρ p→RdX w (NN N0 w0.own ρ S.blks hv) ρ S.blks hv x v) (hu:¬presTrue ρ p→v=undef):RelH P N0 w0 ρ {S with tmps:=putT S.tmps d ⟨p,x⟩} hv (a.put d v) w:=by
 have key:∀t ts,(putT S.tmps d ⟨p,x⟩)[t]?=some ts→(ts=⟨p,x⟩∧(a.put d v).tmps.getD t undef=v)∨(S.tmps[t]?=some ts∧(a.put d v).tmps.getD t undef=a.tmps.getD t undef):=by
  intro t ts ht
  rw[getD_put]
  cases d with
  |none=>exact .inr ⟨ht,by simp⟩
  |some d=>
   simp only[putT] at ht
   rw[List.getElem?_set] at ht
   by_cases hd:d=t
   ·subst hd
    simp only[if_true] at ht
    split at ht
    ·rename_i hlt
     injection ht with ht
     rw[if_pos ⟨rfl,by rw[h.tsz];exact hlt⟩]
     exact .inl ⟨ht.symm,rfl⟩
    ·cases ht
   ·rw[if_neg hd] at ht
    rw[if_neg (by simp[hd])]
    exact .inr ⟨ht,rfl⟩
 refine ⟨?_,?_,h.below,?_,?_,h.blks,h.dist⟩
 ·cases d<;>exact h.defers
 ·cases d<;>simp[Act.put,putT,h.tsz]
 ·intro t ts ht hp
  rcases key t ts ht with ⟨rfl,e⟩|⟨h1,e⟩
  ·rw[e];exact hx hp
  ·rw[e];exact h.tmps t ts h1 hp
 ·intro t ts ht hp
  rcases key t ts ht with ⟨rfl,e⟩|⟨h1,e⟩
  ·rw[e];exact hu hp
  ·rw[e];exact h.und t ts h1 hp
/-- The number of variables is but counted. -/
theorem RelH.nv {P:Program} {N0:Nat→Prop} {w0:Wb} {ρ:List C} {S:SS} {hv:Nat→Value} {a:Act} {w:World} (h:RelH P N0 w0 ρ S hv a w) (n:Nat):RelH P N0 w0 ρ {S with nv:=n} hv a w:=
 ⟨h.defers,h.tsz,h.below,h.tmps,h.und,h.blks,h.dist⟩
end Go.Vc

namespace Go.Vc
open Go.RowKit

theorem frz_at {bs:List Blk} {r r':Nat} {k:Blk} (h:(bs.modify r fun b=> {b with froz:=true})[r']?=some k):
  ∃k0,bs[r']?=some k0∧k.lb=k0.lb∧k.pres=k0.pres∧(k.froz=false→k0.froz=false):=by
 rw[List.getElem?_modify] at h
 cases hb:bs[r']? with
 |none=>simp[hb] at h
 |some k0=>
  simp[hb] at h
  subst h
  refine ⟨k0,rfl,?_⟩
  split<;>simp
theorem frz_at' {bs:List Blk} (r:Nat) {r':Nat} {k:Blk} (h:bs[r']?=some k):
  ∃k',(bs.modify r fun b=> {b with froz:=true})[r']?=some k'∧k'.lb=k.lb∧k'.pres=k.pres:=by
 rw[List.getElem?_modify,h]
 by_cases hr:r=r'<;>simp[hr]
theorem rowIn_frz (bs:List Blk) (r r':Nat):rowIn (bs.modify r fun b=> {b with froz:=true}) r'=rowIn bs r':=by
 unfold rowIn
 rw[List.getElem?_modify]
 cases hb:bs[r']? with
 |none=>simp
 |some k0=>obtain ⟨lb,f,p⟩:=k0;by_cases hr:r=r'<;>cases lb<;>simp[hr]
theorem boxIn_frz (bs:List Blk) (r r':Nat):boxIn (bs.modify r fun b=> {b with froz:=true}) r'=boxIn bs r':=by
 unfold boxIn
 rw[List.getElem?_modify]
 cases hb:bs[r']? with
 |none=>simp
 |some k0=>obtain ⟨lb,f,p⟩:=k0;by_cases hr:r=r'<;>cases lb<;>simp[hr]
theorem liveB_of {k k0:Blk} (h:k.lb=k0.lb):liveB k=liveB k0:=by unfold liveB;rw[h]
theorem frz_le (ρ:List C) (bs:List Blk) (r:Nat) (hv:Nat→Value):BsLe ρ bs (bs.modify r fun b=> {b with froz:=true}) hv hv:=by
 refine ⟨fun r' ⟨k,h1,h2⟩=>⟨?_,rfl⟩,fun r' s e' p _ h=>⟨e',by rw[rowIn_frz] at h;exact h,rfl⟩,fun r' cs p _ h=>⟨cs,by rw[boxIn_frz] at h;exact h⟩⟩
 obtain ⟨k',h3,h4,_⟩:=frz_at' r h1
 exact ⟨k',h3,by rw[h4];exact h2⟩
theorem frz_NN {N0:Nat→Prop} {B:Nat→Prop} {ρ:List C} {bs:List Blk} {r:Nat} {hv:Nat→Value} {b:Nat} (h:NN N0 B ρ bs hv b):
  NN N0 B ρ (bs.modify r fun b=> {b with froz:=true}) hv b:=by
 refine ⟨h.1,fun r' k hk hl hf hp=>?_⟩
 obtain ⟨k0,h1,h2,h3,h4⟩:=frz_at hk
 exact h.2 r' k0 h1 (by rw[←liveB_of h2];exact hl) (h4 hf) (by rw[←h3];exact hp)
/-- A row is written to no more. -/
theorem RelH.frz {P:Program} {N0:Nat→Prop} {w0:Wb} {ρ:List C} {S:SS} {hv:Nat→Value} {a:Act} {w:World} (h:RelH P N0 w0 ρ S hv a w) (r:Nat):
  RelH P N0 w0 ρ {S with blks:=S.blks.modify r fun b=> {b with froz:=true}} hv a w:=by
 have hk:∀b,NN N0 w0.own ρ S.blks hv b→b<w.heap.size→w.heap[b]?=w.heap[b]?∧NN N0 w0.own ρ (S.blks.modify r fun b=> {b with froz:=true}) hv b:=fun b hb _=>⟨rfl,frz_NN hb⟩
 refine h.step (frz_le ρ _ r hv) h.below (Nat.le_refl _) hk ?_ ?_
 ·intro r' k hkk hp
  obtain ⟨k0,h1,h2,h3,_⟩:=frz_at hkk
  rw[h2]
  exact (h.blks r' k0 h1 (by rw[←h3];exact hp)).le (Nat.le_refl _) hk (frz_le ρ _ r hv) rfl fun _ _=>rfl
 ·intro r1 r2 k1 k2 g h1 h2 hne hl1 hl2 hp1 hp2
  obtain ⟨k3,h3,e3,e3',_⟩:=frz_at h1
  obtain ⟨k4,h4,e4,e4',_⟩:=frz_at h2
  exact h.dist r1 r2 k3 k4 g h3 h4 hne (by rw[←liveB_of e3];exact hl1) (by rw[←liveB_of e4];exact hl2) (by rw[←e3'];exact hp1) (by rw[←e4'];exact hp2)
theorem RelH.frzs {P:Program} {N0:Nat→Prop} {w0:Wb} {ρ:List C} {hv:Nat→Value} {a:Act} {w:World}:∀(f:List Nat) {S:SS},RelH P N0 w0 ρ S hv a w→
  RelH P N0 w0 ρ {S with blks:=runCmds (f.map .frz) S.blks} hv a w
 | [],_,h=>h
 |r::f,_,h=>RelH.frzs f (h.frz r)
theorem frzs_le (ρ:List C) (hv:Nat→Value):∀(f:List Nat) (bs:List Blk),BsLe ρ bs (runCmds (f.map .frz) bs) hv hv
 | [],bs=>BsLe.refl _ _ _
 |r::f,bs=>by
  have h1:=frz_le ρ bs r hv
  have h2:=frzs_le ρ hv f (bs.modify r fun b=> {b with froz:=true})
  refine ⟨fun q hq=>?_,fun q s e' p hq h=>?_,fun q cs' p hq h=>?_⟩
  ·exact ⟨(h2.known q (h1.known q hq).1).1,rfl⟩
  ·obtain ⟨e,he,hl⟩:=h2.row q s e' p (h1.known q hq).1 h
   obtain ⟨e0,he0,hl0⟩:=h1.row q s e p hq he
   exact ⟨e0,he0,hl0.trans hl⟩
  ·obtain ⟨cs,hc⟩:=h2.box q cs' p (h1.known q hq).1 h
   exact h1.box q cs p hq hc
theorem frzs_NN {N0:Nat→Prop} {B:Nat→Prop} {ρ:List C} {hv:Nat→Value} {b:Nat}:∀(f:List Nat) {bs:List Blk},NN N0 B ρ bs hv b→NN N0 B ρ (runCmds (f.map .frz) bs) hv b
 | [],_,h=>h
 |_::f,_,h=>frzs_NN f (frz_NN h)
theorem frzs_not {bs:List Blk} {r:Nat} {k:Blk}:∀(f:List Nat),r∈f→(runCmds (f.map .frz) bs)[r]?=some k→k.froz=true:=by
 intro f
 have keep:∀(f:List Nat) (bs:List Blk) (k:Blk),(∀k0,bs[r]?=some k0→k0.froz=true)→(runCmds (f.map .frz) bs)[r]?=some k→k.froz=true:=by
  intro f
  induction f with
  |nil=>intro bs k h1 h2;exact h1 k h2
  |cons q f ih=>
   intro bs k h1 h2
   refine ih _ k (fun k0 hk0=>?_) h2
   change (bs.modify q fun b=> {b with froz:=true})[r]?=some k0 at hk0
   rw[List.getElem?_modify] at hk0
   cases hb:bs[r]? with
   |none=>simp[hb] at hk0
   |some k1=>
    simp[hb] at hk0
    subst hk0
    split
    ·rfl
    ·exact h1 k1 hb
 induction f generalizing bs with
 |nil=>intro h;cases h
 |cons q f ih=>
  intro hm hr
  rcases List.mem_cons.1 hm with h|h
  ·subst h
   refine keep f _ k (fun k0 hk0=>?_) hr
   change (bs.modify r fun b=> {b with froz:=true})[r]?=some k0 at hk0
   rw[List.getElem?_modify] at hk0
   cases hb:bs[r]? with
   |none=>simp[hb] at hk0
   |some k1=>
    simp[hb] at hk0
    subst hk0
    rfl
  ·exact ih h hr
def upd (hv:Nat→Value) (d:Nat) (v:Value):Nat→Value:=fun r=>if r=d then v else hv r
theorem isNew_blk {bs:List Blk} {d:Nat} (h:isNew (rbOf bs) d=true):∃k,bs[d]?=some k∧k.lb= .none:=by
 unfold isNew rbOf at h
 cases hb:bs[d]? with
 |none=>simp[hb] at h
 |some k=>obtain ⟨lb,f,p⟩:=k;simp[hb] at h;cases lb<;>simp_all
theorem new_le (ρ:List C) {bs:List Blk} {d:Nat} (hd:∃k,bs[d]?=some k∧k.lb= .none) (b:Blk) (hv:Nat→Value) (v:Value):BsLe ρ bs (bs.set d b) hv (upd hv d v):=by
 obtain ⟨k0,hk0,hn⟩:=hd
 have hne:∀r,known bs r→r≠d:=by
  rintro r ⟨k,h1,h2⟩ rfl
  rw[hk0] at h1
  injection h1 with h1
  subst h1
  exact h2 hn
 refine ⟨fun r hr=>⟨?_,by simp[upd,hne r hr]⟩,fun r s e p hr h=>⟨e,?_,rfl⟩,fun r cs p hr h=>⟨cs,?_⟩⟩
 ·obtain ⟨k,h1,h2⟩:=hr
  exact ⟨k,by rw[List.getElem?_set_ne (hne r ⟨k,h1,h2⟩).symm];exact h1,h2⟩
 ·unfold rowIn at h ⊢
  rwa[List.getElem?_set_ne (hne r hr).symm] at h
 ·unfold boxIn at h ⊢
  rwa[List.getElem?_set_ne (hne r hr).symm] at h
/-- A new block of the call's own. -/
theorem RelH.new {P:Program} {N0:Nat→Prop} {w0:Wb} {ρ:List C} {S:SS} {hv:Nat→Value} {a:Act} {w w':World} (h:RelH P N0 w0 ρ S hv a w) {d:Nat}
  (hd:∃k,S.blks[d]?=some k∧k.lb= .none) (lb:LB) (pc:Pres) (v:Value) (hw:Below w.heap.size w w') (hbn:∀g,blkNo v=some g→w.heap.size≤g)
  (hok:presTrue ρ pc→BlkOk w' w0.own (NN N0 w0.own ρ (S.blks.set d ⟨lb,false,pc⟩) (upd hv d v)) ρ (S.blks.set d ⟨lb,false,pc⟩) (upd hv d v) d lb):
  RelH P N0 w0 ρ {S with blks:=S.blks.set d ⟨lb,false,pc⟩} (upd hv d v) a w'∧
   (∀b,NN N0 w0.own ρ S.blks hv b→b<w.heap.size→w'.heap[b]?=w.heap[b]?∧NN N0 w0.own ρ (S.blks.set d ⟨lb,false,pc⟩) (upd hv d v) b):=by
 have hle:=new_le ρ hd ⟨lb,false,pc⟩ hv v
 have hdl:d<S.blks.length:=by obtain ⟨k,hk,_⟩:=hd;exact (List.getElem?_eq_some_iff.1 hk).1
 have hk:∀b,NN N0 w0.own ρ S.blks hv b→b<w.heap.size→w'.heap[b]?=w.heap[b]?∧NN N0 w0.own ρ (S.blks.set d ⟨lb,false,pc⟩) (upd hv d v) b:=by
  intro b hb hlt
  refine ⟨hw.block b hlt,hb.1,fun r k hr hl hf hp=>?_⟩
  by_cases hrd:r=d
  ·subst hrd
   simp only[upd,if_true]
   intro hc
   have:=hbn b hc
   omega
  ·rw[List.getElem?_set_ne (fun e=>hrd e.symm)] at hr
   simp only[upd,if_neg hrd]
   exact hb.2 r k hr hl hf hp
 refine ⟨h.step hle (h.below.trans hw) hw.size hk ?_ ?_,hk⟩
 ·intro r k hr hp
  by_cases hrd:r=d
  ·subst hrd
   rw[List.getElem?_set_self hdl] at hr
   injection hr with hr
   subst hr
   exact hok hp
  ·rw[List.getElem?_set_ne (fun e=>hrd e.symm)] at hr
   by_cases hl:liveB k=true
   ·exact (h.blks r k hr hp).le hw.size hk hle (by simp[upd,hrd]) fun g hg=>hw.block g (h.lt hr hl hp hg).1
   ·obtain ⟨lb',f,p⟩:=k
    cases lb' with
    |none=>trivial
    |dead=>trivial
    |row s e=>exact absurd rfl hl
    |box cs=>exact absurd rfl hl
    |mp _ _ _=>exact absurd rfl hl
    |sit _ _=>exact absurd rfl hl
 ·intro r r' k k' g hr hr' hne hl hl' hp hp' hg hg'
  by_cases hrd:r=d
  ·subst hrd
   rw[List.getElem?_set_ne hne] at hr'
   simp only[upd,if_true,if_neg hne.symm] at hg hg'
   have h1:=hbn g hg
   have h2:=(h.lt hr' hl' hp' hg').1
   omega
  ·rw[List.getElem?_set_ne (fun e=>hrd e.symm)] at hr
   simp only[upd,if_neg hrd] at hg
   by_cases hrd':r'=d
   ·subst hrd'
    simp only[upd,if_true] at hg'
    have h1:=hbn g hg'
    have h2:=(h.lt hr hl hp hg).1
    omega
   ·rw[List.getElem?_set_ne (fun e=>hrd' e.symm)] at hr'
    simp only[upd,if_neg hrd'] at hg'
    exact h.dist r r' k k' g hr hr' hne hl hl' hp hp' hg hg'
section
variable {w:World} {N:Nat→Prop} {ρ:List C} {bs:List Blk} {hv:Nat→Value} {e:E} {v:Value}
theorem RdX_int {k:IntKind}:RdX w N ρ bs hv (.dat (.int k) e) v↔v= .int k (e.eval ρ).toInt:=by
 simp[RdX,Rd,Sh.mk,Sh.isAgg,Exact]
theorem RdX_bool:RdX w N ρ bs hv (.dat .bool e) v↔v= .bool (e.eval ρ).toBool:=by
 simp[RdX,Rd,Sh.mk,Sh.isAgg,Exact]
theorem RdX_str:RdX w N ρ bs hv (.dat .str e) v↔v= .string ⟨(e.eval ρ).toStr.toArray⟩:=by
 simp[RdX,Rd,Sh.mk,Sh.isAgg,Exact]
theorem RdX_sl {s:Sh} (h:RdX w N ρ bs hv (.dat (.sl s) e) v):Rd w N (.sl s) [v] (e.eval ρ):=by
 obtain ⟨vs,h1,h2,_⟩:=h
 obtain ⟨a,cap,h3,_⟩:=id h1
 rw[h3] at h2
 rw[h2]
 simp only[Sh.mk,Sh.isAgg]
 rw[h3] at h1
 exact h1
theorem RdX_dat {s:Sh} (h:RdX w N ρ bs hv (.dat s e) v):RdV w N s v (e.eval ρ):=let ⟨vs,h1,h2,_⟩:=h;⟨vs,h1,h2⟩
/-- An expression that says nothing of nil. -/
theorem RdX_of {s:Sh} (h:RdV w N s v (e.eval ρ)) (hx:∀vs,Exact s e vs):RdX w N ρ bs hv (.dat s e) v:=let ⟨vs,h1,h2⟩:=h;⟨vs,h1,h2,hx vs⟩
end
theorem Exact_leaf {s:Sh} {e:E} (h:e≠ .nilS) (hc:∀x y,e≠ .cons x y) (vs:List Value):Exact s e vs:=by
 cases s<;>cases e<;>first|trivial|exact absurd rfl h|exact absurd rfl (hc _ _)
theorem unflatC_sound {w:World} {N:Nat→Prop} {ρ:List C}:∀ {s:Sh} {vs:List Value} {e:E} {r:List Value},unflatC s vs=some (e,r)→
  ∃us,vs=us++r∧Rd w N s us (e.eval ρ)∧Exact s e us:=by
 intro s
 induction s with
 |int k=>
  intro vs e r h
  unfold unflatC at h
  split at h<;>simp_all
  obtain ⟨rfl,rfl,rfl⟩:=h
  exact ⟨[.int _ _],rfl,by simp[Rd,E.eval],by simp[Exact]⟩
 |bool=>
  intro vs e r h
  unfold unflatC at h
  split at h<;>simp_all
  obtain ⟨rfl,rfl⟩:=h
  exact ⟨[.bool _],rfl,by simp[Rd,E.eval],by simp[Exact]⟩
 |str=>
  intro vs e r h
  unfold unflatC at h
  split at h<;>simp_all
  obtain ⟨rfl,rfl⟩:=h
  exact ⟨[.string _],rfl,by simp[Rd,E.eval],by simp[Exact]⟩
 |sl s ih=>
  intro vs e r h
  unfold unflatC at h
  split at h<;>simp_all
  obtain ⟨rfl,rfl⟩:=h
  exact ⟨[.slice none 0 0],rfl,⟨none,0,by simp[E.eval],by simp[E.eval],by simp,fun h=>by simp[E.eval] at h⟩,by simp[Exact]⟩
 |unit=>
  intro vs e r h
  simp[unflatC] at h
  obtain ⟨rfl,rfl⟩:=h
  exact ⟨[],rfl,by simp[Rd],by simp[Exact]⟩
 |pair a b iha ihb=>
  intro vs e r h
  simp only[unflatC] at h
  split at h
  ·rename_i hb
   split at h
   ·rename_i x r1 h1
    split at h
    ·rename_i y r2 h2
     simp at h
     obtain ⟨rfl,rfl⟩:=h
     obtain ⟨u1,e1,g1,x1⟩:=iha h1
     obtain ⟨u2,e2,g2,x2⟩:=ihb h2
     refine ⟨u1++u2,by rw[e1,e2,List.append_assoc],⟨hb,u1,u2,rfl,?_,?_⟩,⟨u1,u2,rfl,g1.length,x1,x2⟩⟩
     ·simpa [E.eval,C.hd] using g1
     ·exact g2.of_list hb (by simp[E.eval,C.tl])
    ·simp at h
   ·simp at h
  ·simp at h
 |ifc _ _ _=>intro vs e r h;simp[unflatC] at h
 |nili=>intro vs e r h;simp[unflatC] at h
 |fun_ _=>intro vs e r h;simp[unflatC] at h
 |mp _ _ _=>intro vs e r h;simp[unflatC] at h
theorem constSX_sound {w:World} {N:Nat→Prop} {ρ:List C} {bs:List Blk} {hv:Nat→Value} {s:Option Sh} {v:Value} {x:SX} (h:constSX s v=some x):RdX w N ρ bs hv x v:=by
 unfold constSX at h
 split at h
 ·injection h with h;subst h;rw[RdX_int];rfl
 ·injection h with h;subst h;rw[RdX_bool];rfl
 ·injection h with h;subst h;rw[RdX_str];rfl
 ·injection h with h;subst h;exact ⟨[.nilIface],rfl,rfl,trivial⟩
 ·injection h with h;subst h;trivial
 ·injection h with h
  subst h
  exact ⟨[.slice none 0 0],⟨none,0,by simp[E.eval],by simp[E.eval],by simp,fun h=>by simp[E.eval] at h⟩,by simp[Sh.mk,Sh.isAgg],by simp[Exact]⟩
 ·rename_i cs s
  split at h
  ·rename_i ha
   split at h
   ·rename_i e hu
    injection h with h
    subst h
    obtain ⟨us,h1,h2,h3⟩:=unflatC_sound (w:=w) (N:=N) (ρ:=ρ) hu
    simp at h1
    exact ⟨us,h2,by simp[Sh.mk,ha,←h1],h3⟩
   ·simp at h
  ·simp at h
 ·simp at h
theorem ev_sound {P:Program} {N0:Nat→Prop} {w0:Wb} {ρ:List C} {S:SS} {hv:Nat→Value} {a:Act} {w:World} (h:RelH P N0 w0 ρ S hv a w) {pc:Pres} (hp:presTrue ρ pc)
  {x:Operand} {t:TypeId} {sx:SX} (he:S.ev P pc x t=some sx):RdX w (NN N0 w0.own ρ S.blks hv) ρ S.blks hv sx (a.eval x):=by
 unfold SS.ev at he
 cases x with
 |tmp i=>
  simp only at he
  cases ht:S.tmps[i]? with
  |none=>simp[ht] at he
  |some ts=>
   simp only[ht] at he
   split at he
   ·rename_i hsub
    injection he with he
    subst he
    exact h.tmps i ts ht (presSub_true hsub hp)
   ·simp at he
 |const v=>exact constSX_sound he
 |global g=>simp at he
 |func f=>
  injection he with he
  subst he
  rfl
def Ob.holds (P:Program) (ρ:List C) (nv:Nat):Ob→Prop
 | .asrt p e=>presTrue ρ p→(e.eval ρ).toBool=true
 | .call p f args rets=>presTrue ρ p→PC P f (evalArgs ρ args) (rets.zip ((ρ.drop nv).take rets.length))∧(rets=[]∨nv+rets.length≤ρ.length)
/-- Obligations, the variables of the calls counted on. -/
def obsHold (P:Program) (ρ:List C):Nat→List Ob→Prop
 |_,[]=>True
 |nv,o::l=>o.holds P ρ nv∧obsHold P ρ (nv+o.vars) l
theorem obsHold_app {P:Program} {ρ:List C}:∀ {l m:List Ob} {nv:Nat},obsHold P ρ nv (l++m)↔obsHold P ρ nv l∧obsHold P ρ (nv+(l.map Ob.vars).sum) m
 | [],m,nv=>by simp[obsHold]
 |o::l,m,nv=>by simp[obsHold,obsHold_app (l:=l),Nat.add_assoc,and_assoc]
theorem asrt_mem {P:Program} {ρ:List C} {pc:Pres} (hp:presTrue ρ pc) {e:E}:∀ {nv:Nat},obsHold P ρ nv (asrt pc e)→(e.eval ρ).toBool=true:=by
 intro nv h
 unfold asrt at h
 split at h
 ·split at h
  ·simp_all[E.eval,cmpI]
  ·exact h.1 hp
 ·split at h
  ·simp_all[E.eval,cmpI]
  ·exact h.1 hp
 ·split at h
  ·simp_all[E.eval,cmpI]
  ·exact h.1 hp
 ·exact h.1 hp
theorem asrt_vars (pc:Pres) (e:E):((asrt pc e).map Ob.vars).sum=0:=by
 unfold asrt
 split<;>(try split)<;>simp[Ob.vars]
theorem asrt_app {P:Program} {ρ:List C} {pc:Pres} (hp:presTrue ρ pc) {e:E} {l:List Ob} {nv:Nat} (h:obsHold P ρ nv (asrt pc e++l)):(e.eval ρ).toBool=true∧obsHold P ρ nv l:=by
 rw[obsHold_app,asrt_vars] at h
 exact ⟨asrt_mem hp h.1,h.2⟩
end Go.Vc

namespace Go.Vc
open Go.RowKit

section
variable {P:Program} {w:World} {N:Nat→Prop} {ρ:List C} {bs:List Blk} {hv:Nat→Value}
theorem run_shift (op:BinOp) (hop:op= .shl∨op= .shr) (t:TypeId) (k k':IntKind) (x y:Int) (hy:0≤y):(binOp op t (.int k x) (.int k' y)).run P w= .ok (.int k (arith op k x y)) w:=by
 have h:¬y<0:=by omega
 rcases hop with rfl|rfl<;>simp[binOp,Op.shift,h,arith]
theorem run_arith (op:BinOp) (hop:op= .add∨op= .sub∨op= .mul∨op= .and∨op= .or∨op= .xor∨op= .andNot) (t:TypeId) (k:IntKind) (x y:Int):
  (binOp op t (.int k x) (.int k y)).run P w= .ok (.int k (arith op k x y)) w:=by
 rcases hop with rfl|rfl|rfl|rfl|rfl|rfl|rfl<;>simp[binOp,Op.intArith,Op.intBits,arith]
theorem run_div (op:BinOp) (hop:op= .quo∨op= .rem) (t:TypeId) (k:IntKind) (x y:Int) (hy:y≠0):
  (binOp op t (.int k x) (.int k y)).run P w= .ok (.int k (arith op k x y)) w:=by
 rcases hop with rfl|rfl<;>simp[binOp,Op.intDiv,arith,hy]
theorem run_cmp (op:BinOp) (hop:op= .eql∨op= .neq∨op= .lss∨op= .leq∨op= .gtr∨op= .geq) (t:TypeId) (k:IntKind) (x y:Int):
  (binOp op t (.int k x) (.int k y)).run P w= .ok (.bool (cmpI op x y)) w:=by
 rcases hop with rfl|rfl|rfl|rfl|rfl|rfl<;>simp[binOp,Op.intCmp,cmpI]
theorem run_scmp (op:BinOp) (hop:op= .eql∨op= .neq∨op= .lss∨op= .leq∨op= .gtr∨op= .geq) (t:TypeId) (x y:List UInt8):
  (binOp op t (.string ⟨x.toArray⟩) (.string ⟨y.toArray⟩)).run P w= .ok (.bool (cmpS op x y)) w:=by
 rcases hop with rfl|rfl|rfl|rfl|rfl|rfl<;>simp[binOp,Op.stringOp,cmpS]
def Value.plain:Value→Bool
 | .int .. | .bool _| .string _=>true
 |_=>false
theorem run_guard_plain (op:BinOp) (t:TypeId) (x y:Operand) (a b:Value) (h:Value.plain a=true):(eqGuard op t x y a b).run P w= .ok () w:=by
 cases a<;>simp[Value.plain] at h<;>cases op<;>simp[eqGuard]
theorem run_equalIn_bool (d:Nat) (t:TypeId) (ht:P.underlying t=some .bool) (x y:Bool):(Op.equalIn (d+1) t (.bool x) (.bool y)).run P w= .ok (x==y) w:=by
 simp[Op.equalIn,run_underlying ht]
theorem run_beq (t:TypeId) (ht:P.underlying t=some .bool) (x y:Bool):(binOp .eql t (.bool x) (.bool y)).run P w= .ok (.bool (x==y)) w:=by
 simp only[binOp]
 simp[Op.equal,Op.maxDepth,run_equalIn_bool 9999 t ht]
theorem run_bne (t:TypeId) (ht:P.underlying t=some .bool) (x y:Bool):(binOp .neq t (.bool x) (.bool y)).run P w= .ok (.bool (!(x==y))) w:=by
 simp only[binOp]
 simp[Op.equal,Op.maxDepth,run_equalIn_bool 9999 t ht]
theorem bytes_append (x y:List UInt8):(⟨x.toArray⟩:ByteArray)++⟨y.toArray⟩=⟨(x++y).toArray⟩:=by
 apply ByteArray.ext
 simp
theorem run_cat (t:TypeId) (x y:List UInt8) (h:(x.length:Int)+(y.length:Int)≤9223372036854775807):(binOp .add t (.string ⟨x.toArray⟩) (.string ⟨y.toArray⟩)).run P w= .ok (.string ⟨(x++y).toArray⟩) w:=by
 have h1:¬(9223372036854775807<(x.length:Int)+(y.length:Int)):=by omega
 simp[binOp,Op.stringOp,ByteArray.size,IntKind.max,IntKind.signed,IntKind.bits,h1,bytes_append]
theorem wrap_fits (k:IntKind) (n:Int) (h1:k.min≤n) (h2:n≤k.max):k.wrap n=n:=by
 cases k<;>simp[IntKind.min,IntKind.max,IntKind.signed,IntKind.bits] at h1 h2<;>simp[IntKind.wrap,IntKind.signed,IntKind.bits]<;>omega
/-- What a plain operation comes to. -/
theorem run_equalIn_nilq (d:Nat) (t:TypeId) {et:TypeId} (ht:P.underlying t=some (.slice et)) (ad:Option Addr) (n cap:Nat):(Op.equalIn (d+1) t (.slice ad n cap) (.slice none 0 0)).run P w= .ok ad.isNone w:=by
 cases ad<;>simp[Op.equalIn,run_underlying ht]
theorem run_nilq (t:TypeId) {et:TypeId} (ht:P.underlying t=some (.slice et)) (ox oy:Operand) (ad:Option Addr) (n cap:Nat):
  (do eqGuard .eql t ox oy (.slice ad n cap) (.slice none 0 0);binOp .eql t (.slice ad n cap) (.slice none 0 0):Sem Value).run P w= .ok (.bool ad.isNone) w:=by
 have hg:(eqGuard .eql t ox oy (.slice ad n cap) (.slice none 0 0)).run P w= .ok () w:=by simp[eqGuard]
 simp only[Sem.run_bind,hg,Result.andThen_ok]
 simp only[binOp]
 simp[Op.equal,Op.maxDepth,run_equalIn_nilq 9999 t ht]
def VRun (P:Program) (w:World) (N:Nat→Prop) (ρ:List C) (bs:List Blk) (hv:Nat→Value) (m:Sem Value) (x:SX):Prop:=
 ∃v,m.run P w= .ok v w∧RdX w N ρ bs hv x v
theorem binX_sound {raw : Bool} {pc : Pres} {op : BinOp} {xt : TypeId} {s s' : Sh} {ex ey : E} {out : Out} {vx vy : Value} {ox oy : Operand} {nv : Nat}
    (h : binX P raw pc op xt s ex s' ey = some out) (hagg : s.isAgg = false) (hp : presTrue ρ pc) (ho : obsHold P ρ nv out.obs)
    (hx : RdX w N ρ bs hv (.dat s ex) vx) (hy : RdX w N ρ bs hv (.dat s' ey) vy) :
    out.cmds = [] ∧ out.nv = 0 ∧ VRun P w N ρ bs hv (do eqGuard op xt ox oy vx vy; binOp op xt vx vy) out.x := by
  unfold binX at h
  split at h
  · rename_i k k'
    rw [RdX_int] at hx hy
    subst hx hy
    have hg : ∀ op, (eqGuard op xt ox oy (.int k (ex.eval ρ).toInt) (.int k' (ey.eval ρ).toInt)).run P w = .ok () w := fun op => run_guard_plain op xt ox oy _ _ rfl
    split at h
    · injection h with h
      subst h
      have h0 := asrt_mem hp ho
      simp [E.eval, cmpI] at h0
      exact ⟨rfl, rfl, _, by simp [hg, run_shift .shl (.inl rfl) xt k k' _ _ h0]; rfl, by rw [RdX_int]; rfl⟩
    · injection h with h
      subst h
      have h0 := asrt_mem hp ho
      simp [E.eval, cmpI] at h0
      exact ⟨rfl, rfl, _, by simp [hg, run_shift .shr (.inr rfl) xt k k' _ _ h0]; rfl, by rw [RdX_int]; rfl⟩
    · split at h
      · simp at h
      · rename_i hk
        simp only [ne_eq, Decidable.not_not] at hk
        subst hk
        have arithCase : ∀ op', op' = op → (op = .add ∨ op = .sub ∨ op = .mul) → (if (raw && k == .i64) = true then some { x := SX.dat (.int k) (.raw op ex ey), obs := [Ob.asrt pc (.fits k (.raw op ex ey))] : Out }
            else some { x := .dat (.int k) (.bin op k ex ey) }) = some out →
            out.cmds = [] ∧ out.nv = 0 ∧ VRun P w N ρ bs hv (do eqGuard op xt ox oy (.int k (ex.eval ρ).toInt) (.int k (ey.eval ρ).toInt); binOp op xt (.int k (ex.eval ρ).toInt) (.int k (ey.eval ρ).toInt)) out.x := by
          intro op' _ hop h
          have hr := run_arith (P := P) (w := w) op (by rcases hop with h | h | h <;> simp [h]) xt k (ex.eval ρ).toInt (ey.eval ρ).toInt
          split at h
          · injection h with h
            subst h
            have h0 := ho.1 hp
            refine ⟨rfl, rfl, _, by simp [hg, hr]; rfl, ?_⟩
            rw [RdX_int]
            rcases hop with rfl | rfl | rfl <;> simp only [E.eval, arith, rawArith, C.toInt_int, C.toBool_bool] at h0 ⊢ <;> rw [wrap_fits k _ (of_decide_eq_true h0).1 (of_decide_eq_true h0).2]
          · injection h with h
            subst h
            exact ⟨rfl, rfl, _, by simp [hg, hr]; rfl, by rw [RdX_int]; rfl⟩
        split at h
        · exact arithCase _ rfl (by simp) h
        · exact arithCase _ rfl (by simp) h
        · exact arithCase _ rfl (by simp) h
        · injection h with h
          subst h
          have h0 := asrt_mem hp ho
          simp [E.eval, cmpI] at h0
          exact ⟨rfl, rfl, _, by simp [hg, run_div .quo (.inl rfl) xt k _ _ h0]; rfl, by rw [RdX_int]; rfl⟩
        · injection h with h
          subst h
          have h0 := asrt_mem hp ho
          simp [E.eval, cmpI] at h0
          exact ⟨rfl, rfl, _, by simp [hg, run_div .rem (.inr rfl) xt k _ _ h0]; rfl, by rw [RdX_int]; rfl⟩
        · injection h with h; subst h; exact ⟨rfl, rfl, _, by simp [hg, run_arith .and (by simp) xt k]; rfl, by rw [RdX_int]; rfl⟩
        · injection h with h; subst h; exact ⟨rfl, rfl, _, by simp [hg, run_arith .or (by simp) xt k]; rfl, by rw [RdX_int]; rfl⟩
        · injection h with h; subst h; exact ⟨rfl, rfl, _, by simp [hg, run_arith .xor (by simp) xt k]; rfl, by rw [RdX_int]; rfl⟩
        · injection h with h; subst h; exact ⟨rfl, rfl, _, by simp [hg, run_arith .andNot (by simp) xt k]; rfl, by rw [RdX_int]; rfl⟩
        · injection h with h
          subst h
          have hop : op = .eql ∨ op = .neq ∨ op = .lss ∨ op = .leq ∨ op = .gtr ∨ op = .geq := by cases op <;> simp_all
          exact ⟨rfl, rfl, _, by simp [hg, run_cmp op hop xt k]; rfl, by rw [RdX_bool]; rfl⟩
  · rw [RdX_str] at hx hy
    subst hx hy
    have hg : ∀ op, (eqGuard op xt ox oy (.string ⟨(ex.eval ρ).toStr.toArray⟩) (.string ⟨(ey.eval ρ).toStr.toArray⟩)).run P w = .ok () w := fun op => run_guard_plain op xt ox oy _ _ rfl
    split at h
    · injection h with h
      subst h
      have h0 := ho.1 hp
      simp [E.eval, rawArith, IntKind.max, IntKind.signed, IntKind.bits] at h0
      refine ⟨rfl, rfl, .string ⟨((ex.eval ρ).toStr ++ (ey.eval ρ).toStr).toArray⟩, ?_, by rw [RdX_str]; rfl⟩
      simp [hg, run_cat xt _ _ h0.2]
    all_goals
      first
      | (injection h with h
         subst h
         exact ⟨rfl, rfl, _, by simp [hg, run_scmp]; rfl, by rw [RdX_bool]; rfl⟩)
      | simp at h
  · rw [RdX_bool] at hx hy
    subst hx hy
    have hg : ∀ op, (eqGuard op xt ox oy (.bool (ex.eval ρ).toBool) (.bool (ey.eval ρ).toBool)).run P w = .ok () w := fun op => run_guard_plain op xt ox oy _ _ rfl
    split at h
    · rename_i ht
      injection h with h
      subst h
      exact ⟨rfl, rfl, _, by simp [hg, run_beq xt ht]; rfl, by rw [RdX_bool]; rfl⟩
    · rename_i ht
      injection h with h
      subst h
      exact ⟨rfl, rfl, _, by simp [hg, run_bne xt ht]; rfl, by rw [RdX_bool]; rfl⟩
    · simp at h
  · split at h
    · rename_i hu
      injection h with h
      subst h
      obtain ⟨vs, h1, h2, _⟩ := hx
      obtain ⟨vs', h3, h4, h5⟩ := hy
      simp only [Exact] at h5
      subst h5
      obtain ⟨ad, cap, h6, h7, h8, h9⟩ := h1
      subst h6 h2 h4
      refine ⟨rfl, rfl, .bool ad.isNone, ?_, ad.isNone, rfl, fun hn => ?_⟩
      · simp only [Sh.mk, Sh.isAgg]
        exact run_nilq xt hu ox oy ad _ cap
      · cases ad with
        | some ad => simp at hn
        | none =>
          apply Classical.byContradiction
          intro hne
          obtain ⟨b, off, h10, _⟩ := h9 hne
          cases h10
    · simp at h
  · simp [hagg] at h

theorem pickX_sound {c:Option SX} {fa fb:E→Option SX} {out:Out} {vc va vb:Value} (h:pickX c fa fb=some out) (hc:∀x,c=some x→RdX w N ρ bs hv x vc)
  (ha:∀e x,c=some (.dat .bool e)→(e.eval ρ).toBool=true→fa e=some x→RdX w N ρ bs hv x va) (hb:∀e x,c=some (.dat .bool e)→(e.eval ρ).toBool=false→fb e=some x→RdX w N ρ bs hv x vb):
  out.cmds=[]∧out.nv=0∧out.obs=[]∧VRun P w N ρ bs hv (do pure (if ←asBool vc then va else vb)) out.x:=by
 unfold pickX at h
 split at h
 ·rename_i ec
  split at h
  ·rename_i s ea s' eb h1 h2
   split at h
   ·rename_i hs
    subst hs
    injection h with h
    subst h
    have hcc:=hc _ rfl
    rw[RdX_bool] at hcc
    subst hcc
    refine ⟨rfl,rfl,rfl,if (ec.eval ρ).toBool then va else vb,by simp[asBool],?_⟩
    have hx:∀vs,Exact s (.ite ec ea eb) vs:=Exact_leaf (by simp) (by simp)
    by_cases hcb:(ec.eval ρ).toBool=true
    ·refine RdX_of ?_ hx
     have:=RdX_dat (ha ec _ rfl hcb h1)
     simpa [E.eval,hcb] using this
    ·have hcb:(ec.eval ρ).toBool=false:=by simpa using hcb
     refine RdX_of ?_ hx
     have:=RdX_dat (hb ec _ rfl hcb h2)
     simpa [E.eval,hcb] using this
   ·simp at h
  ·simp at h
 ·simp at h
theorem unX_sound {op:UnOp} {x:Option SX} {out:Out} {v:Value} (h:unX op x=some out) (hx:∀y,x=some y→RdX w N ρ bs hv y v):
  out.cmds=[]∧out.nv=0∧out.obs=[]∧VRun P w N ρ bs hv (Op.unary op v) out.x:=by
 unfold unX at h
 split at h
 ·injection h with h
  subst h
  have h1:=hx _ rfl
  rw[RdX_bool] at h1
  subst h1
  exact ⟨rfl,rfl,rfl,_,by simp[Op.unary];rfl,by rw[RdX_bool];rfl⟩
 ·injection h with h
  subst h
  have h1:=hx _ rfl
  rw[RdX_int] at h1
  subst h1
  exact ⟨rfl,rfl,rfl,_,by simp[Op.unary,Op.intArith];rfl,by rw[RdX_int];simp[E.eval,arith]⟩
 ·injection h with h
  subst h
  have h1:=hx _ rfl
  rw[RdX_int] at h1
  subst h1
  exact ⟨rfl,rfl,rfl,_,by simp[Op.unary,Op.intBits];rfl,by rw[RdX_int];simp[E.eval]⟩
 ·simp at h
end
end Go.Vc

namespace Go.Vc
open Go.RowKit
/-- The first pair of a key. -/
def look (l:List (Int×Value)) (x:Int):Option Value:=(l.find? fun p=>p.1==x).map (·.2)
/-- With a key set to a value. -/
def mput:List (Int×Value)→Int→Value→List (Int×Value)
 | [],x,v=> [(x,v)]
 |p::l,x,v=>if p.1=x then (x,v)::l else p::mput l x v
theorem MapIs.new (w:World) (kk:IntKind):MapIs (w.alloc (.map #[] 0)) w.heap.size kk []:=⟨#[],0,heap_alloc_new w _,rfl⟩
theorem MapIs.lt {w:World} {b:Nat} {kk:IntKind} {l:List (Int×Value)} (h:MapIs w b kk l):b<w.heap.size:=by
 obtain ⟨es,clock,hb,_⟩:=h
 exact (Array.getElem?_eq_some_iff.1 hb).1
theorem MapIs.kept {w w':World} {b:Nat} {kk:IntKind} {l:List (Int×Value)} {row:Option Nat} (h:MapIs w b kk l) (hg:w.grownBy w' row) (hne:some b≠row):MapIs w' b kk l:=by
 have hlt:=h.lt
 obtain ⟨es,clock,hb,hl⟩:=h
 exact ⟨es,clock,(hg.block b hlt hne).trans hb,hl⟩
theorem MapIs.below {w w':World} {b n:Nat} {kk:IntKind} {l:List (Int×Value)} (h:MapIs w b kk l) (hg:Below n w w') (hn:b<n):MapIs w' b kk l:=by
 obtain ⟨es,clock,hb,hl⟩:=h
 exact ⟨es,clock,(hg.block b hn).trans hb,hl⟩
theorem MapIs.not_row {w:World} {b:Nat} {kk:IntKind} {l:List (Int×Value)} (h:MapIs w b kk l) {base size n:Nat} {e:TypeId} {v:Value} {xs:List Value} (hr:w.ownsRow base e size v n xs):some b≠v.ownBlock:=by
 obtain ⟨es,clock,hb,_⟩:=h
 rcases hr.2 with ⟨rfl,_⟩|⟨g,cap,cur,rfl,_,hg,_⟩
 ·simp[Value.ownBlock]
 ·intro e
  obtain rfl:b=g:=by simpa [Value.ownBlock] using e
  rw[hb] at hg
  cases hg
theorem findNow_int {kk:IntKind} (x:Int):∀(es:List MapEntry) (l:List (Int×Value)) (i:Nat),es.map (fun e=>(e.key,e.val))=l.map (fun p=>(.int kk p.1,p.2))→
  ∃r,Instr.findNow (.int kk) (.int kk x) es i=some r∧(r=none∧look l x=none∧(∀p∈l,p.1≠x)∨∃j v,r=some (i+j,v)∧look l x=some v∧∃p,l[j]?=some p∧p.1=x∧∀q∈l.take j,q.1≠x)
 | [],[],i,_=>⟨none,rfl,.inl ⟨rfl,rfl,by simp⟩⟩
 | [],_::_,_,h=>by simp at h
 |_::_,[],_,h=>by simp at h
 |e::es,p::l,i,h=>by
  simp only[List.map_cons,List.cons.injEq,Prod.mk.injEq] at h
  obtain ⟨⟨h1,h2⟩,h3⟩:=h
  by_cases hx:p.1=x
  ·refine ⟨some (i,e.val),?_,.inr ⟨0,e.val,rfl,by simp[look,hx,h2],p,rfl,hx,by simp⟩⟩
   simp[Instr.findNow,h1,Instr.sameNow,hx]
  ·obtain ⟨r,hr,hc⟩:=findNow_int x es l (i+1) h3
   have hn:Instr.findNow (.int kk) (.int kk x) (e::es) i=Instr.findNow (.int kk) (.int kk x) es (i+1):=by
    have:¬x=p.1:=fun e=>hx e.symm
    have:(x==p.1)=false:=by simpa using this
    simp only[Instr.findNow,h1,Instr.sameNow,if_true,this]
   refine ⟨r,hn.trans hr,?_⟩
   have hl:look (p::l) x=look l x:=by simp[look,hx]
   rcases hc with ⟨c1,c2,c3⟩|⟨j,v,c1,c2,q,c3,c4,c5⟩
   ·exact .inl ⟨c1,hl.trans c2,fun q hq=>by rcases List.mem_cons.1 hq with rfl|hq;exact hx;exact c3 q hq⟩
   ·refine .inr ⟨j+1,v,by rw[c1];congr 2;omega,hl.trans c2,q,by simpa using c3,c4,fun z hz=>?_⟩
    rw[List.take_succ_cons] at hz
    rcases List.mem_cons.1 hz with rfl|hz
    ·exact hx
    ·exact c5 z hz
section
variable {P:Program} {w:World} {b:Nat} {kk:IntKind} {l:List (Int×Value)} {t k e:TypeId}
theorem run_findKey (hk:P.underlying k=some (.int kk)) {es:Array MapEntry} (x:Int) {r:Option (Nat×Value)} (hr:Instr.findNow (.int kk) (.int kk x) es.toList 0=some r):
  (Instr.findKey k (.int kk x) es.toList).run P w= .ok r w:=by
 simp[Instr.findKey,run_underlying hk,hr]
theorem run_checkKey (hk:P.underlying k=some (.int kk)) (x:Int) (em:Bool):(Instr.checkKey em 10000 k (.int kk x)).run P w= .ok () w:=by
 rw[show (10000:Nat)=9999+1 from rfl,Instr.checkKey]
 simp[run_underlying hk]
theorem MapIs.look_run (h:MapIs w b kk l) (ht:P.underlying t=some (.map k e)) (hk:P.underlying k=some (.int kk)) {z:Value} (hz:(zeroValue e).run P w= .ok z w) (x:Int) (ok:Bool):
  (Instr.lookup t (.map (some b)) (.int kk x) ok).run P w= .ok (if ok then .tuple #[(look l x).getD z,.bool (look l x).isSome] else (look l x).getD z) w:=by
 obtain ⟨es,clock,hb,hl⟩:=h
 obtain ⟨r,hr,hc⟩:=findNow_int x es.toList l 0 hl
 have hf:=run_findKey (w:=w) hk x hr
 have hck:=run_checkKey (P:=P) (w:=w) hk x es.isEmpty
 rcases hc with ⟨rfl,c2,_⟩|⟨j,v,rfl,c2,_⟩
 ·cases ok<;>simp[Instr.lookup,run_underlying ht,MapKept.run_getObj_map hb,Result.andThen,hck,hf,hz,c2]
 ·cases ok<;>simp[Instr.lookup,run_underlying ht,MapKept.run_getObj_map hb,Result.andThen,hck,hf,c2]
theorem mput_at:∀(l:List (Int×Value)) (j:Nat) (p:Int×Value) (x:Int) (v:Value),l[j]?=some p→p.1=x→(∀q∈l.take j,q.1≠x)→mput l x v=l.set j (x,v)
 | [],_,_,_,_,h,_,_=>by simp at h
 |q::l,0,p,x,v,h,hp,_=>by
  simp at h
  subst h
  simp[mput,hp]
 |q::l,j+1,p,x,v,h,hp,hn=>by
  have h1:q.1≠x:=hn q (by simp)
  rw[mput,if_neg h1,mput_at l j p x v (by simpa using h) hp (fun z hz=>hn z (by simp[hz]))]
  rfl
theorem mput_new:∀(l:List (Int×Value)) (x:Int) (v:Value),(∀q∈l,q.1≠x)→mput l x v=l++ [(x,v)]
 | [],_,_,_=>rfl
 |q::l,x,v,h=>by
  rw[mput,if_neg (h q (by simp)),mput_new l x v (fun z hz=>h z (by simp[hz]))]
  rfl
theorem MapIs.put_run2 (h:MapIs w b kk l) (ht:P.underlying t=some (.map k e)) (hk:P.underlying k=some (.int kk)) (x:Int) (v:Value):
  ∃o,(Instr.mapUpdate t (.map (some b)) (.int kk x) v).run P w= .ok () (w.putObj b o)∧MapIs (w.putObj b o) b kk (mput l x v):=by
 obtain ⟨es,clock,hb,hl⟩:=h
 obtain ⟨r,hr,hc⟩:=findNow_int x es.toList l 0 hl
 have hf:=run_findKey (w:=w) hk x hr
 have hck:=run_checkKey (P:=P) (w:=w) hk x false
 have hlt:=(Array.getElem?_eq_some_iff.1 hb).1
 rcases hc with ⟨rfl,c2,c3⟩|⟨j,u,rfl,c2,p,c3,c4,c5⟩
 ·refine ⟨.map (es.push {key:= .int kk x,val:=v,born:=clock}) (clock+1),?_,⟨_,_,World.putObj_heap_same hlt,?_⟩⟩
  ·simp[Instr.mapUpdate,run_underlying ht,MapKept.run_getObj_map hb,MapKept.run_setObj_map _ hb,Result.andThen,hck,hf,World.putObj]
  ·rw[mput_new l x v c3]
   simp[hl]
 ·have hj:j<es.size:=by
   have h1:=congrArg List.length hl
   simp at h1
   have:=(List.getElem?_eq_some_iff.1 c3).1
   omega
  have hkey:(es[j]'hj).key= .int kk x:=by
   have h1:=congrArg (fun l=>l[j]?) hl
   simp only[List.getElem?_map,c3,Array.getElem?_toList,Array.getElem?_eq_getElem hj] at h1
   simp at h1
   rw[h1.1,c4]
  have hst:(Instr.keyThatStays (((es[j]?).map (·.key)).getD (.int kk x)) (.int kk x)).run P w= .ok (.int kk x) w:=by
   rw[Array.getElem?_eq_getElem hj]
   simp[Instr.keyThatStays,hkey,Instr.sameBits]
  refine ⟨.map (es.modify j fun e=> {e with key:= .int kk x,val:=v}) clock,?_,⟨_,_,World.putObj_heap_same hlt,?_⟩⟩
  ·simp only[Nat.zero_add] at hf
   simp[Instr.mapUpdate,run_underlying ht,MapKept.run_getObj_map hb,MapKept.run_setObj_map _ hb,Result.andThen,hck,hf,hst,World.putObj]
  ·rw[mput_at l j p x v c3 c4 c5]
   apply List.ext_getElem?
   intro i
   have h1:=congrArg (fun l=>l[i]?) hl
   simp only[List.getElem?_map,Array.getElem?_toList] at h1
   simp only[List.getElem?_map,Array.getElem?_toList,Array.getElem?_modify,List.getElem?_set]
   by_cases hij:j=i
   ·subst hij
    have:=(List.getElem?_eq_some_iff.1 c3).1
    simp[hj,this]
   ·simp only[hij,if_false]
    exact h1
end
/-! Pairs that read as data. -/
theorem MapRd.find {R:Value→C→Prop} (x:Int):∀ {l:List (Int×Value)} {cs:List C},MapRd R l cs→(look l x=none∧mfind cs x=none)∨∃v d,look l x=some v∧mfind cs x=some d∧R v d.tl.hd
 | [],[],_=> .inl ⟨rfl,rfl⟩
 | [],_::_,h=>h.elim
 |_::_,[],h=>h.elim
 |p::l,d::cs,⟨h1,h2,h3⟩=>by
  by_cases hx:p.1=x
  ·refine .inr ⟨p.2,d,?_,?_,h2⟩
   ·simp[look,hx]
   ·unfold mfind
    rw[List.find?_cons]
    simp[h1,hx]
  ·have e1:look (p::l) x=look l x:=by simp[look,hx]
   have e2:mfind (d::cs) x=mfind cs x:=by
    have hb:(p.1==x)=false:=by simpa using hx
    unfold mfind
    rw[List.find?_cons]
    simp only[h1,hb]
   rw[e1,e2]
   exact MapRd.find x h3
theorem MapRd.put {R:Value→C→Prop} (x:Int) {v:Value} {c:C} (hv:R v c):∀ {l:List (Int×Value)} {cs:List C},MapRd R l cs→MapRd R (mput l x v) (mset cs x c)
 | [],[],_=>⟨rfl,hv,trivial⟩
 | [],_::_,h=>h.elim
 |_::_,[],h=>h.elim
 |p::l,d::cs,⟨h1,h2,h3⟩=>by
  unfold mput mset
  rw[h1]
  by_cases hx:p.1=x
  ·rw[if_pos hx,if_pos hx]
   exact ⟨rfl,hv,h3⟩
  ·rw[if_neg hx,if_neg hx]
   exact ⟨h1,h2,MapRd.put x hv h3⟩
end Go.Vc

namespace Go.Vc
open Go.RowKit

/-- The blocks that N allows, and those of the rows f. -/
def NF (N:Nat→Prop) (hv:Nat→Value) (f:List Nat) (b:Nat):Prop:=N b∨∃r∈f,blkNo (hv r)=some b
theorem NF_nil (N:Nat→Prop) (hv:Nat→Value) (b:Nat):NF N hv [] b↔N b:=by simp[NF]
section
variable {P:Program} {w:World} {B:Nat→Prop} {N:Nat→Prop} {ρ:List C} {bs:List Blk} {hv:Nat→Value}
theorem rowOf_in {pc:Pres} (hp:presTrue ρ pc) {r:Nat} {s:Sh} {e:E} (h:rowOf (rbOf bs) pc r=some (s,e)):∃p,rowIn bs r=some (s,e,p)∧presTrue ρ p:=by
 unfold rowOf rbOf at h
 unfold rowIn
 cases hb:bs[r]? with
 |none=>simp[hb] at h
 |some k=>
  obtain ⟨lb,f,p⟩:=k
  cases lb<;>simp[hb] at h
  obtain ⟨h1,rfl,rfl⟩:=h
  exact ⟨p,rfl,presSub_true h1 hp⟩
theorem mapOf_in {pc:Pres} (hp:presTrue ρ pc) {r:Nat} {k:IntKind} {s:Sh} {e:E} (h:mapOf (rbOf bs) pc r=some (k,s,e)):∃p,mapIn bs r=some (k,s,e,p)∧presTrue ρ p:=by
 unfold mapOf rbOf at h
 unfold mapIn
 cases hb:bs[r]? with
 |none=>simp[hb] at h
 |some k=>
  obtain ⟨lb,f,p⟩:=k
  cases lb<;>simp[hb] at h
  obtain ⟨h1,rfl,rfl,rfl⟩:=h
  exact ⟨p,rfl,presSub_true h1 hp⟩
theorem LiveAt.row {r:Nat} {s:Sh} {e:E} {p:Pres} (h:rowIn bs r=some (s,e,p)) (hp:presTrue ρ p):LiveAt bs ρ r:=by
 unfold rowIn at h
 cases hb:bs[r]? with
 |none=>simp[hb] at h
 |some k=>
  obtain ⟨lb,f,p'⟩:=k
  cases lb<;>simp[hb] at h
  obtain ⟨rfl,rfl,rfl⟩:=h
  exact ⟨_,hb,rfl,hp⟩
theorem LiveAt.map {r:Nat} {k:IntKind} {s:Sh} {e:E} {p:Pres} (h:mapIn bs r=some (k,s,e,p)) (hp:presTrue ρ p):LiveAt bs ρ r:=by
 unfold mapIn at h
 cases hb:bs[r]? with
 |none=>simp[hb] at h
 |some k=>
  obtain ⟨lb,f,p'⟩:=k
  cases lb<;>simp[hb] at h
  obtain ⟨rfl,rfl,rfl,rfl⟩:=h
  exact ⟨_,hb,rfl,hp⟩
/-- All rows, and all maps, are as the state says. -/
structure RowsOk (w:World) (B:Nat→Prop) (N:Nat→Prop) (ρ:List C) (bs:List Blk) (hv:Nat→Value):Prop where
 row:∀r s e p,rowIn bs r=some (s,e,p)→presTrue ρ p→∃et xs,w.ownsR B et s.size (hv r) (e.eval ρ).toList.length xs∧RdRow w N s xs (e.eval ρ).toList∧0<s.size
 map:∀r k s e p,mapIn bs r=some (k,s,e,p)→presTrue ρ p→∃g l,hv r= .map (some g)∧B g∧MapIs w g k l∧MapRd (fun v d=>Rd w N s [v] d) l (e.eval ρ).toList
theorem own_cells {et:TypeId} {size:Nat} {v:Value} {n:Nat} {xs:List Value} (h:w.ownsR B et size v n xs):
  (v= .slice none 0 0∧n=0∧xs=[])∨∃g cap,v= .slice (some ⟨g,0,none⟩) n cap∧n≤cap∧cap≤maxLen∧g<w.heap.size∧B g∧CellsAt w g 0 xs:=by
 obtain ⟨h1,h2⟩:=h
 rcases h2 with ⟨h2,h3⟩|⟨g,cap,cur,h3,h4,h5,h6,h7,h8,h9⟩
 ·subst h3
  exact .inl ⟨h2,rfl,List.eq_nil_of_length_eq_zero (by simpa using h1)⟩
 ·refine .inr ⟨g,cap,h3,h6,h7,(Array.getElem?_eq_some_iff.1 h5).1,h4,fun j u hu=>?_⟩
  rw[Nat.zero_add,cell_of_row w g j cur et (0,0) h5]
  rw[←h9,List.getElem?_take] at hu
  split at hu
  ·simpa using hu
  ·cases hu
theorem nf_mono {f:List Nat}:∀b,N b→b<w.heap.size→w.heap[b]?=w.heap[b]?∧NF N hv f b:=fun _ h _=>⟨rfl,.inl h⟩
/-- A part of a row, as data. -/
theorem Rd_part {et:TypeId} {s:Sh} {v:Value} {l:List C} {xs:List Value} (hown:w.ownsR B et s.size v l.length xs) (hr:RdRow w N s xs l) {N':Nat→Prop}
  (hN:∀b,N b→N' b) (hv:∀g,blkNo v=some g→N' g) {o m cap:Nat} {a:Option Addr} (hle:o+m≤l.length) (hm:m≤cap) (hc:cap≤maxLen)
  (ha:0<m→∃g,blkNo v=some g∧a=some ⟨g,o*s.size,none⟩) (c:C) (hcl:c.toList=(l.take (o+m)).drop o):Rd w N' (.sl s) [.slice a m cap] c:=by
 have hlen:c.toList.length=m:=by rw[hcl];simp;omega
 refine ⟨a,cap,by rw[hlen],by rw[hlen];exact hm,hc,fun hne=>?_⟩
 have hm0:0<m:=by rw[←hlen];exact List.length_pos_iff.2 hne
 obtain ⟨g,hg,rfl⟩:=ha hm0
 rcases own_cells hown with ⟨h1,_,_⟩|⟨g',cap',h1,_,_,hlt,_,hcell⟩
 ·rw[h1] at hg;cases hg
 ·rw[h1] at hg
  injection hg with hg
  subst hg
  refine ⟨g',o*s.size,rfl,hv g' (by rw[h1];rfl),hlt,?_⟩
  rw[hcl]
  have hr':RdRow w N' s xs l:=hr.mono (Nat.le_refl _) fun b hb _=>⟨rfl,hN b hb⟩
  refine RowAt.of_row ((hr'.take (o+m)).drop o) fun j u hu=>?_
  rw[List.getElem?_drop,List.getElem?_take] at hu
  split at hu
  ·have:=hcell _ u hu
   simpa using this
  ·cases hu
theorem eval_noNil (ρ:List C) (e:E):(noNil e).eval ρ=e.eval ρ:=by unfold noNil;split<;>simp[E.eval]
theorem exact_noNil (s:Sh) (e:E) (vs:List Value):Exact (.sl s) (noNil e) vs:=by
 cases e<;>trivial
theorem datOf_sound (hrows:RowsOk w B N ρ bs hv) {pc:Pres} (hp:presTrue ρ pc) {x:SX} {s:Sh} {e:E} {f:List Nat} {v:Value} (h:datOf (rbOf bs) pc x=some (s,e,f)) (hx:RdX w N ρ bs hv x v):
  RdX w (NF N hv f) ρ bs hv (.dat s e) v:=by
 unfold datOf at h
 split at h
 ·simp at h
  obtain ⟨rfl,rfl,rfl⟩:=h
  exact hx.le (Nat.le_refl _) nf_mono (BsLe.refl _ _ _)
 ·rename_i r n
  split at h
  ·rename_i s' e' hr
   simp at h
   obtain ⟨rfl,rfl,rfl⟩:=h
   obtain ⟨p,h1,h2⟩:=rowOf_in hp hr
   obtain ⟨et,xs,h3,h4,_⟩:=hrows.row r _ _ p h1 h2
   obtain ⟨hkn,hx⟩:=hx
   obtain ⟨hx1,_⟩:=hx _ _ p h1 h2
   subst hx1
   have hlen:((e'.eval ρ).toList.take (0+(e'.eval ρ).toList.length)).drop 0=(e'.eval ρ).toList:=by simp
   rcases own_cells h3 with ⟨h5,h6,_⟩|⟨g,cap,h5,h6,h7,_,_,_⟩
   ·refine ⟨[hv r],?_,by simp[Sh.mk,Sh.isAgg],exact_noNil _ _ _⟩
    rw[h5,eval_noNil]
    have:=Rd_part (N':=NF N hv [r]) h3 h4 (fun b hb=> .inl hb) (fun g hg=> .inr ⟨r,by simp,hg⟩) (o:=0) (m:=(e'.eval ρ).toList.length) (cap:=0) (a:=none) (by omega) (by omega) (by simp) (fun hh=>by omega) (e'.eval ρ) hlen.symm
    rwa[h6] at this
   ·refine ⟨[hv r],?_,by simp[Sh.mk,Sh.isAgg],exact_noNil _ _ _⟩
    rw[eval_noNil]
    have:=Rd_part (N':=NF N hv [r]) h3 h4 (fun b hb=> .inl hb) (fun g hg=> .inr ⟨r,by simp,hg⟩) (o:=0) (m:=(e'.eval ρ).toList.length) (cap:=cap) (a:=some ⟨g,0,none⟩) (by omega) h6 h7
     (fun hh=>⟨g,by rw[h5];rfl,by simp⟩) (e'.eval ρ) hlen.symm
    rw[h5]
    exact this
  ·simp at h
 ·rename_i r off n
  split at h
  ·rename_i s' e' hr
   simp at h
   obtain ⟨rfl,rfl,rfl⟩:=h
   obtain ⟨p,h1,h2⟩:=rowOf_in hp hr
   obtain ⟨et,xs,h3,h4,_⟩:=hrows.row r _ _ p h1 h2
   obtain ⟨hkn,hx⟩:=hx
   obtain ⟨o,m,ho,hm,hle,a,cap,rfl,hmc,hcm,ha⟩:=hx _ _ p h1 h2
   refine ⟨[.slice a m cap],?_,by simp[Sh.mk,Sh.isAgg],Exact_leaf (by simp) (by simp) _⟩
   refine Rd_part (N':=NF N hv [r]) h3 h4 (fun b hb=> .inl hb) (fun g hg=> .inr ⟨r,by simp,hg⟩) hle hmc hcm ha _ ?_
   simp only[E.eval,rawArith,C.toList_ls,C.toInt_int,ho,hm]
   congr 2
  ·simp at h
 ·simp at h
  obtain ⟨rfl,rfl,rfl⟩:=h
  exact ⟨[_],rfl,hx,trivial⟩
 ·rename_i r
  split at h
  ·rename_i k s' e' hr
   simp at h
   obtain ⟨rfl,rfl,rfl⟩:=h
   obtain ⟨p,h1,h2⟩:=mapOf_in hp hr
   obtain ⟨g,l,h3,h4,h5,h6⟩:=hrows.map r _ _ _ p h1 h2
   obtain ⟨hkn,hx⟩:=hx
   subst hx
   refine ⟨[hv r],⟨g,l,by rw[h3],.inr ⟨r,by simp,by rw[h3];rfl⟩,h5.lt,h5,h6.imp fun _ _ h=>h.mono (Nat.le_refl _) nf_mono⟩,by simp[Sh.mk,Sh.isAgg],?_⟩
   cases e'<;>trivial
  ·simp at h
 ·simp at h
theorem RelH.rows {P:Program} {N0:Nat→Prop} {w0:Wb} {S:SS} {a:Act} (h:RelH P N0 w0 ρ S hv a w):RowsOk w w0.own (NN N0 w0.own ρ S.blks hv) ρ S.blks hv:=by
 refine ⟨fun r s e p hr hp=>?_,fun r k s e p hr hp=>?_⟩
 ·unfold rowIn at hr
  cases hb:S.blks[r]? with
  |none=>simp[hb] at hr
  |some k=>
   obtain ⟨lb,f,p'⟩:=k
   cases lb<;>simp[hb] at hr
   obtain ⟨rfl,rfl,rfl⟩:=hr
   exact h.blks r _ hb hp
 ·unfold mapIn at hr
  cases hb:S.blks[r]? with
  |none=>simp[hb] at hr
  |some k=>
   obtain ⟨lb,f,p'⟩:=k
   cases lb<;>simp[hb] at hr
   obtain ⟨rfl,rfl,rfl,rfl⟩:=hr
   exact h.blks r _ hb hp
/-- Behind the freezing the rows' blocks are allowed. -/
theorem RelH.nf {P:Program} {N0:Nat→Prop} {w0:Wb} {S:SS} {a:Act} (h:RelH P N0 w0 ρ S hv a w) {f:List Nat} {b:Nat} (hb:NF (NN N0 w0.own ρ S.blks hv) hv f b)
  (hf:∀r∈f,LiveAt S.blks ρ r):NN N0 w0.own ρ (runCmds (f.map .frz) S.blks) hv b:=by
 rcases hb with hb|⟨r,hr,hg⟩
 ·exact frzs_NN f hb
 ·obtain ⟨k,hbk,hlk,h2⟩:=hf r hr
  ·refine ⟨.inr (h.lt hbk hlk h2 hg).2,fun r' k' hk' hl hfz hp=>?_⟩
   by_cases hrr:r'=r
   ·subst hrr
    rw[frzs_not f hr hk'] at hfz
    cases hfz
   ·have hle:=frzs_le ρ hv f S.blks
    have:∃k0,S.blks[r']?=some k0∧k0.lb=k'.lb∧k0.pres=k'.pres:=by
     clear hl hfz hp hle hg hr
     revert hk'
     generalize S.blks=bs
     induction f generalizing bs with
     |nil=>intro hk';exact ⟨k',hk',rfl,rfl⟩
     |cons q f ih=>
      intro hk'
      obtain ⟨k0,e1,e2,e3⟩:=ih (fun r hr=>by simp_all) _ hk'
      obtain ⟨k1,e4,e5,e6,_⟩:=frz_at (r:=q) e1
      exact ⟨k1,e4,by rw[←e5,e2],by rw[←e6,e3]⟩
    obtain ⟨k0,e1,e2,e3⟩:=this
    exact h.dist r r' _ k0 b hbk e1 (fun e=>hrr e.symm) hlk (by rw[liveB_of e2];exact hl) h2 (by rw[e3];exact hp) hg
end
end Go.Vc

namespace Go.Vc
open Go.RowKit

def C.fld:C→Nat→C
 |c,0=>c.hd
 |c,j+1=>c.tl.fld j
theorem C.fld_list {c c':C} (h:c.toList=c'.toList):∀j,c.fld j=c'.fld j
 |0=>by simp[C.fld,C.hd,h]
 |j+1=>by simp[C.fld,C.tl,h]
theorem eval_mkHd (ρ:List C) (e:E):(mkHd e).eval ρ=(e.eval ρ).hd:=by
 unfold mkHd
 split<;>simp[E.eval,C.hd]
theorem eval_mkTl (ρ:List C) (e:E):((mkTl e).eval ρ).toList=(e.eval ρ).tl.toList:=by
 unfold mkTl
 split<;>simp[E.eval,C.tl]
theorem eval_fldE (ρ:List C):∀(j:Nat) (e:E),(fldE e j).eval ρ=(e.eval ρ).fld j
 |0,e=>eval_mkHd ρ e
 |j+1,e=>by
  rw[fldE,eval_fldE ρ j,C.fld]
  exact C.fld_list (eval_mkTl ρ e) j
section
variable {P:Program} {w:World} {B:Nat→Prop} {N:Nat→Prop} {ρ:List C} {bs:List Blk} {hv:Nat→Value}
theorem Exact_hd {a b:Sh} {e:E} {va vb:List Value} (h:Exact (.pair a b) e (va++vb)) (hl:va.length=a.size):Exact a (mkHd e) va∧Exact b (mkTl e) vb:=by
 by_cases hc:∃x y,e= .cons x y
 ·obtain ⟨x,y,rfl⟩:=hc
  obtain ⟨ua,ub,h1,h2,h3,h4⟩:=h
  obtain ⟨rfl,rfl⟩:=List.append_inj h1 (by rw[hl,h2])
  exact ⟨h3,h4⟩
 ·have h1:mkHd e= .hd e:=by cases e<;>first|rfl|exact absurd ⟨_,_,rfl⟩ hc
  have h2:mkTl e= .tl e:=by cases e<;>first|rfl|exact absurd ⟨_,_,rfl⟩ hc
  rw[h1,h2]
  exact ⟨Exact_leaf (by simp) (by simp) _,Exact_leaf (by simp) (by simp) _⟩
theorem Rd_fld:∀ {s:Sh} {j:Nat} {vs:List Value} {c:C} {s':Sh} {off:Nat},Rd w N s vs c→s.fld j=some (s',off)→
  Rd w N s' ((vs.drop off).take s'.size) (c.fld j)∧off+s'.size≤vs.length∧∀e,Exact s e vs→Exact s' (fldE e j) ((vs.drop off).take s'.size)
 | .pair a b,0,vs,c,s',off,h,hf=>by
  simp[Sh.fld] at hf
  obtain ⟨rfl,rfl⟩:=hf
  obtain ⟨h0,va,vb,rfl,h1,h2⟩:=h
  have e1:List.take a.size (List.drop 0 (va++vb))=va:=by simp[←h1.length]
  rw[e1]
  refine ⟨h1,by simp[h1.length],fun e he=>(Exact_hd he h1.length).1⟩
 | .pair a b,j+1,vs,c,s',off,h,hf=>by
  simp[Sh.fld] at hf
  obtain ⟨s1,o',hf,rfl,rfl⟩:=hf
  obtain ⟨h0,va,vb,rfl,h1,h2⟩:=h
  obtain ⟨h3,h4,h5⟩:=Rd_fld h2 hf
  have e1:List.drop (a.size+o') (va++vb)=List.drop o' vb:=by rw[←h1.length,List.drop_append];simp
  rw[e1]
  exact ⟨h3,by simp[h1.length];omega,fun e he=>h5 _ (Exact_hd he h1.length).2⟩
 | .int _,_,_,_,_,_,_,hf| .bool,_,_,_,_,_,_,hf| .str,_,_,_,_,_,_,hf| .sl _,_,_,_,_,_,_,hf| .unit,_,_,_,_,_,_,hf| .ifc _ _,_,_,_,_,_,_,hf| .nili,_,_,_,_,_,_,hf| .fun_ _,_,_,_,_,_,_,hf| .mp _ _,_,_,_,_,_,_,hf=>by simp[Sh.fld] at hf
theorem fitsT_spec {t:TypeId} {s:Sh} (h:fitsT P t s=true):∃i d,P.info? t=some i∧i.size=s.size∧P.underlying t=some d∧isAggT P t=s.isAgg:=by
 simp only[fitsT,Bool.and_eq_true,beq_iff_eq] at h
 obtain ⟨⟨⟨h1,h2⟩,h3⟩,h4⟩:=h
 obtain ⟨i,hi⟩:=Option.isSome_iff_exists.1 h1
 obtain ⟨d,hd⟩:=Option.isSome_iff_exists.1 h2
 exact ⟨i,d,hi,by simpa [Program.cellsOf,hi] using h3,hd,h4⟩
theorem run_isAgg {t:TypeId} {s:Sh} (h:fitsT P t s=true):(isAgg t).run P w= .ok s.isAgg w:=by
 obtain ⟨i,d,hi,_,hd,ha⟩:=fitsT_spec h
 rw[←ha]
 unfold isAgg isAggT
 simp only[hd,Sem.run_bind,run_underlying hd,Result.andThen_ok]
 cases d<;>simp
theorem run_sizeOf {t:TypeId} {s:Sh} (h:fitsT P t s=true):(sizeOf t).run P w= .ok s.size w:=by
 obtain ⟨i,d,hi,hs,_,_⟩:=fitsT_spec h
 simp[sizeOf,typeInfo,hi,hs]
theorem run_part {t:TypeId} {s:Sh} (h:fitsT P t s=true) {cs:List Value} {off:Nat} {us:List Value} (hu:(cs.drop off).take s.size=us) (hl:us.length=s.size):
  (part t cs.toArray off).run P w= .ok (s.mk us) w:=by
 unfold part
 simp only[Sem.run_bind,run_isAgg h,Result.andThen_ok]
 by_cases ha:s.isAgg=true
 ·simp[ha,run_sizeOf h,Sh.mk,←hu,List.extract_eq_take_drop]
 ·have ha:s.isAgg=false:=by simpa using ha
  have hs:s.size=1:=by cases s<;>simp_all[Sh.isAgg,Sh.size]
  rw[hs] at hu hl
  match us,hl with
  | [u],_=>
   have:cs[off]?=some u:=by
    have h0:(List.take 1 (List.drop off cs))[0]?=some u:=by rw[hu];rfl
    simpa using h0
   simp[ha,this,Sh.mk]
theorem addr_add (b off n:Nat):(⟨b,off,none⟩:Addr).add n=⟨b,off+n,none⟩:=by
 unfold Addr.add
 split<;>simp_all
theorem run_loadVar {t:TypeId} {s:Sh} (h:fitsT P t s=true) {b off:Nat} {us:List Value} (hc:CellsAt w b off us) (hl:us.length=s.size):
  (loadVar t ⟨b,off,none⟩).run P w= .ok (s.mk us) w:=by
 unfold loadVar
 simp only[Sem.run_bind,run_isAgg h,Result.andThen_ok]
 by_cases ha:s.isAgg=true
 ·have hld:=run_loadCells_list (P:=P) w ⟨b,off,none⟩ us (fun j v hv=>by rw[addr_add];exact hc j v hv)
  simp[ha,run_sizeOf h,←hl,hld,Sh.mk]
 ·have ha:s.isAgg=false:=by simpa using ha
  have hs:s.size=1:=by cases s<;>simp_all[Sh.isAgg,Sh.size]
  rw[hs] at hl
  match us,hl with
  | [u],_=>
   have h1:=hc 0 u rfl
   rw[Nat.add_zero] at h1
   simp[ha,h1,Sh.mk]
theorem fieldX_sound {t:TypeId} {j:Nat} {x:Option SX} {out:Out} {v:Value} (h:fieldX P t j x=some out) (hx:∀y,x=some y→RdX w N ρ bs hv y v):
  out.cmds=[]∧out.nv=0∧out.obs=[]∧VRun P w N ρ bs hv (Instr.field t v j) out.x:=by
 unfold fieldX at h
 split at h
 ·rename_i s e fs hu
  split at h
  ·rename_i s' off f hf hfs
   split at h
   ·rename_i hok
    injection h with h
    subst h
    simp only[fieldOk,Bool.and_eq_true,decide_eq_true_eq] at hok
    obtain ⟨vs,h1,h2,h3⟩:=hx _ rfl
    have hag:s.isAgg=true:=by cases s<;>simp_all[Sh.fld,Sh.isAgg]
    obtain ⟨h4,h5,h6⟩:=Rd_fld h1 hf
    have hv:v= .agg vs.toArray:=by rw[h2];simp[Sh.mk,hag]
    subst hv
    refine ⟨rfl,rfl,rfl,s'.mk ((vs.drop off).take s'.size),?_,_,?_,rfl,h6 e h3⟩
    ·have hp:=run_part (P:=P) (w:=w) hok.2 (cs:=vs) (off:=off) rfl h4.length
     simp[Instr.field,run_underlying hu,hfs,asAgg,hok.1,hp]
    ·rw[eval_fldE]
     exact h4
   ·simp at h
  ·simp at h
 ·simp at h
theorem rb_blk {r:Nat} {lb:LB} {p:Pres} (h:rbOf bs r=some ⟨lb,p⟩):∃f,bs[r]?=some ⟨lb,f,p⟩:=by
 unfold rbOf at h
 cases hb:bs[r]? with
 |none=>simp[hb] at h
 |some k=>obtain ⟨lb',f,p'⟩:=k;simp[hb] at h;obtain ⟨rfl,rfl⟩:=h;exact ⟨f,rfl⟩
/-- All boxes are as the state says. -/
def BoxesOk (w:World) (B:Nat→Prop) (N:Nat→Prop) (ρ:List C) (bs:List Blk) (hv:Nat→Value):Prop:=
 ∀r cs p,boxIn bs r=some (cs,p)→presTrue ρ p→∃g bt arr,hv r= .pointer (some ⟨g,0,none⟩)∧B g∧w.heap[g]?=some (.cells arr bt (0,0))∧RdXs w N ρ bs hv cs arr.toList
theorem RelH.boxes {P:Program} {N0:Nat→Prop} {w0:Wb} {S:SS} {a:Act} (h:RelH P N0 w0 ρ S hv a w):BoxesOk w w0.own (NN N0 w0.own ρ S.blks hv) ρ S.blks hv:=by
 intro r cs p hr hp
 unfold boxIn at hr
 cases hb:S.blks[r]? with
 |none=>simp[hb] at hr
 |some k=>
  obtain ⟨lb,f,p'⟩:=k
  cases lb<;>simp[hb] at hr
  obtain ⟨rfl,rfl⟩:=hr
  exact h.blks r _ hb hp
theorem RdXs_get:∀ {cs:List SX} {vs:List Value} {j:Nat} {x:SX},RdXs w N ρ bs hv cs vs→cs[j]?=some x→∃v,vs[j]?=some v∧RdX w N ρ bs hv x v
 | [],_,_,_,_,hj=>by simp at hj
 |_::_,_,0,_,⟨v,r,h1,h2,_⟩,hj=>by
  simp at hj
  subst hj h1
  exact ⟨v,rfl,h2⟩
 |_::l,_,j+1,_,⟨v,r,h1,_,h3⟩,hj=>by
  subst h1
  have:=RdXs_get (j:=j) h3 (by simpa using hj)
  simpa using this
theorem RdXs_drop:∀ {cs:List SX} {vs:List Value} (j:Nat),RdXs w N ρ bs hv cs vs→RdXs w N ρ bs hv (cs.drop j) (vs.drop j)
 | [],_,j,h=>by simp only[RdXs] at h;subst h;simp[RdXs]
 |_::_,_,0,h=>by simpa using h
 |_::_,_,j+1,⟨v,r,h1,_,h3⟩=>by
  subst h1
  simpa using RdXs_drop j h3
theorem RdXs_length:∀ {cs:List SX} {vs:List Value},RdXs w N ρ bs hv cs vs→vs.length=cs.length
 | [],_,h=>by simp only[RdXs] at h;subst h;rfl
 |_::_,_,⟨v,r,h1,_,h3⟩=>by subst h1;simp[RdXs_length h3]
theorem NF_left {f g:List Nat} {b:Nat} (h:NF N hv f b):NF N hv (f++g) b:=by
 rcases h with h|⟨r,hr,hg⟩
 ·exact .inl h
 ·exact .inr ⟨r,by simp[hr],hg⟩
theorem NF_right {f g:List Nat} {b:Nat} (h:NF N hv g b):NF N hv (f++g) b:=by
 rcases h with h|⟨r,hr,hg⟩
 ·exact .inl h
 ·exact .inr ⟨r,by simp[hr],hg⟩
theorem unflat_sound (hrows:RowsOk w B N ρ bs hv) {pc:Pres} (hp:presTrue ρ pc):∀ {s:Sh} {cs:List SX} {vs:List Value} {e:E} {f:List Nat} {r:List SX},unflat (rbOf bs) pc s cs=some (e,f,r)→RdXs w N ρ bs hv cs vs→
  ∃us vr,vs=us++vr∧Rd w (NF N hv f) s us (e.eval ρ)∧Exact s e us∧RdXs w N ρ bs hv r vr:=by
 have leaf:∀ {s:Sh} {cs:List SX} {vs:List Value} {e:E} {f:List Nat} {r:List SX},s.isAgg=false→leafX (rbOf bs) pc s cs=some (e,f,r)→RdXs w N ρ bs hv cs vs→∃us vr,vs=us++vr∧Rd w (NF N hv f) s us (e.eval ρ)∧Exact s e us∧RdXs w N ρ bs hv r vr:=by
  intro s cs vs e f r hs h hx
  cases cs with
  |nil=>simp[leafX] at h
  |cons x l=>
   obtain ⟨v,vr,rfl,h1,h2⟩:=hx
   simp only[leafX] at h
   split at h
   ·rename_i s' e' f' hd
    split at h
    ·rename_i hss
     subst hss
     simp at h
     obtain ⟨rfl,rfl,rfl⟩:=h
     obtain ⟨us,h3,h4,h5⟩:=datOf_sound hrows hp hd h1
     have hl:us.length=1:=by rw[h3.length];cases s<;>simp_all[Sh.isAgg,Sh.size]
     match us,hl with
     | [u],_=>
      simp[Sh.mk,hs] at h4
      subst h4
      exact ⟨[v],vr,rfl,h3,h5,h2⟩
    ·simp at h
   ·simp at h
 intro s
 induction s with
 |int k=>intro cs vs e f r h;exact leaf rfl (by simpa [unflat] using h)
 |bool=>intro cs vs e f r h;exact leaf rfl (by simpa [unflat] using h)
 |str=>intro cs vs e f r h;exact leaf rfl (by simpa [unflat] using h)
 |sl s _=>intro cs vs e f r h;exact leaf rfl (by simpa [unflat] using h)
 |ifc t s _=>intro cs vs e f r h;exact leaf rfl (by simpa [unflat] using h)
 |nili=>intro cs vs e f r h;exact leaf rfl (by simpa [unflat] using h)
 |fun_ g=>intro cs vs e f r h;exact leaf rfl (by simpa [unflat] using h)
 |mp k s _=>intro cs vs e f r h;exact leaf rfl (by simpa [unflat] using h)
 |unit=>
  intro cs vs e f r h hx
  simp[unflat] at h
  obtain ⟨rfl,rfl,rfl⟩:=h
  exact ⟨[],vs,rfl,rfl,by simp[Exact],hx⟩
 |pair a b iha ihb=>
  intro cs vs e f r h hx
  simp only[unflat] at h
  split at h
  ·rename_i hb
   split at h
   ·rename_i x f1 r1 h1
    split at h
    ·rename_i y f2 r2 h2
     simp at h
     obtain ⟨rfl,rfl,rfl⟩:=h
     obtain ⟨u1,v1,e1,g1,x1,hx1⟩:=iha h1 hx
     obtain ⟨u2,v2,e2,g2,x2,hx2⟩:=ihb h2 hx1
     have m1:∀b,NF N hv f1 b→b<w.heap.size→w.heap[b]?=w.heap[b]?∧NF N hv (f1++f2) b:=fun b hb _=>⟨rfl,NF_left hb⟩
     have m2:∀b,NF N hv f2 b→b<w.heap.size→w.heap[b]?=w.heap[b]?∧NF N hv (f1++f2) b:=fun b hb _=>⟨rfl,NF_right hb⟩
     refine ⟨u1++u2,v2,by rw[e1,e2,List.append_assoc],⟨hb,u1,u2,rfl,?_,?_⟩,⟨u1,u2,rfl,g1.length,x1,x2⟩,hx2⟩
     ·simpa [E.eval,C.hd] using g1.mono (Nat.le_refl _) m1
     ·exact (g2.mono (Nat.le_refl _) m2).of_list hb (by simp[E.eval,C.tl])
    ·simp at h
   ·simp at h
  ·simp at h
theorem datOf_rows {pc:Pres} (hp:presTrue ρ pc) {x:SX} {s:Sh} {e:E} {f:List Nat} (h:datOf (rbOf bs) pc x=some (s,e,f)):∀q∈f,LiveAt bs ρ q:=by
 intro q hq
 unfold datOf at h
 split at h
 ·simp at h;obtain ⟨_,_,rfl⟩:=h;cases hq
 ·split at h
  ·rename_i hr
   simp at h
   obtain ⟨_,_,rfl⟩:=h
   simp at hq
   subst hq
   obtain ⟨p,h1,h2⟩:=rowOf_in hp hr
   exact LiveAt.row h1 h2
  ·simp at h
 ·split at h
  ·rename_i hr
   simp at h
   obtain ⟨_,_,rfl⟩:=h
   simp at hq
   subst hq
   obtain ⟨p,h1,h2⟩:=rowOf_in hp hr
   exact LiveAt.row h1 h2
  ·simp at h
 ·simp at h;obtain ⟨_,_,rfl⟩:=h;cases hq
 ·split at h
  ·rename_i hr
   simp at h
   obtain ⟨_,_,rfl⟩:=h
   simp at hq
   subst hq
   obtain ⟨p,h1,h2⟩:=mapOf_in hp hr
   exact LiveAt.map h1 h2
  ·simp at h
 ·simp at h
theorem unflat_rows {pc:Pres} (hp:presTrue ρ pc):∀ {s:Sh} {cs:List SX} {e:E} {f:List Nat} {r:List SX},unflat (rbOf bs) pc s cs=some (e,f,r)→∀q∈f,LiveAt bs ρ q:=by
 have dat:∀ {x:SX} {s:Sh} {e:E} {f:List Nat},datOf (rbOf bs) pc x=some (s,e,f)→∀q∈f,LiveAt bs ρ q:=fun h=>datOf_rows hp h
 have leaf:∀ {s:Sh} {cs:List SX} {e:E} {f:List Nat} {r:List SX},leafX (rbOf bs) pc s cs=some (e,f,r)→∀q∈f,LiveAt bs ρ q:=by
  intro s cs e f r h
  cases cs with
  |nil=>simp[leafX] at h
  |cons x l=>
   simp only[leafX] at h
   split at h
   ·rename_i hd
    split at h
    ·simp at h
     obtain ⟨_,rfl,_⟩:=h
     exact dat hd
    ·simp at h
   ·simp at h
 intro s
 induction s with
 |int k=>intro cs e f r h;exact leaf (s:= .int k) (by simpa [unflat] using h)
 |bool=>intro cs e f r h;exact leaf (s:= .bool) (by simpa [unflat] using h)
 |str=>intro cs e f r h;exact leaf (s:= .str) (by simpa [unflat] using h)
 |sl s _=>intro cs e f r h;exact leaf (s:= .sl s) (by simpa [unflat] using h)
 |ifc t s _=>intro cs e f r h;exact leaf (s:= .ifc t s) (by simpa [unflat] using h)
 |nili=>intro cs e f r h;exact leaf (s:= .nili) (by simpa [unflat] using h)
 |fun_ g=>intro cs e f r h;exact leaf (s:= .fun_ g) (by simpa [unflat] using h)
 |mp k s _=>intro cs e f r h;exact leaf (s:= .mp k s) (by simpa [unflat] using h)
 |unit=>
  intro cs e f r h q hq
  simp[unflat] at h
  obtain ⟨_,rfl,_⟩:=h
  cases hq
 |pair a b iha ihb=>
  intro cs e f r h q hq
  simp only[unflat] at h
  split at h
  ·split at h
   ·rename_i x f1 r1 h1
    split at h
    ·rename_i y f2 r2 h2
     simp at h
     obtain ⟨_,rfl,_⟩:=h
     rcases List.mem_append.1 hq with hq|hq
     ·exact iha h1 q hq
     ·exact ihb h2 q hq
    ·simp at h
   ·simp at h
  ·simp at h
/-- A load: what comes out is data under the rows that must be frozen. -/
theorem loadX_sound (hrows:RowsOk w B N ρ bs hv) (hboxes:BoxesOk w B N ρ bs hv) {pc:Pres} (hp:presTrue ρ pc) {t:TypeId} {x:Option SX} {out:Out} {v:Value}
  (h:loadX P (rbOf bs) pc t x=some out) (hx:∀y,x=some y→RdX w N ρ bs hv y v):
  ∃f,out.cmds=f.map .frz∧(∀q∈f,LiveAt bs ρ q)∧out.nv=0∧out.obs=[]∧∃u,(Instr.loadAt t v).run P w= .ok u w∧RdX w (NF N hv f) ρ bs hv out.x u:=by
 have m0:∀b,N b→b<w.heap.size→w.heap[b]?=w.heap[b]?∧NF N hv [] b:=fun b hb _=>⟨rfl,.inl hb⟩
 unfold loadX at h
 split at h
 ·rename_i s e
  split at h
  ·rename_i hf
   injection h with h
   subst h
   obtain ⟨b,off,us,rfl,h2,h3,h4,h5,h6⟩:=hx _ rfl
   refine ⟨[],rfl,by simp,rfl,rfl,s.mk us,by simp[Instr.loadAt,Instr.sureAddr,run_loadVar hf h4 h5.length],us,h5.mono (Nat.le_refl _) m0,rfl,h6⟩
  ·simp at h
 ·rename_i r i fo s fld
  obtain ⟨hkn,hrow,hbox⟩:=hx _ rfl
  split at h
  ·rename_i hf
   split at h
   ·rename_i es e p hrb
    obtain ⟨fz,hb⟩:=rb_blk hrb
    split at h
    ·rename_i hsub
     have hpp:=presSub_true hsub hp
     have hin:rowIn bs r=some (es,e,p):=by simp[rowIn,hb]
     obtain ⟨o,g,ho,hlt,hg,rfl,hfld⟩:=hrow es e p hin hpp
     obtain ⟨et,xs,hown,hrd,hsz⟩:=hrows.row r es e p hin hpp
     obtain ⟨c,hc⟩:∃c,(e.eval ρ).toList[o]?=some c:=⟨_,List.getElem?_eq_getElem hlt⟩
     have hat:=hrd.at_ hc
     have hcell:CellsAt w g 0 xs:=by
      rcases own_cells hown with ⟨h1,_,_⟩|⟨g',cap',h1,_,_,_,_,hcell⟩
      ·rw[h1] at hg;cases hg
      ·rw[h1] at hg
       injection hg with hg
       subst hg
       exact hcell
     have hevi:((E.idx e i).eval ρ)=c:=by simp[E.eval,ho,List.getD,hc]
     split at h
     ·obtain ⟨rfl,rfl⟩:=hfld
      simp at h
      subst h
      have hc2:CellsAt w g (o*s.size+0) ((xs.drop (o*s.size)).take s.size):=fun j u hu=>by
       rw[List.getElem?_take] at hu
       split at hu
       ·rw[List.getElem?_drop] at hu
        have:=hcell _ u hu
        simpa [Nat.add_assoc] using this
       ·cases hu
      refine ⟨[],rfl,by simp,rfl,rfl,s.mk ((xs.drop (o*s.size)).take s.size),by simpa [Instr.loadAt,Instr.sureAddr] using run_loadVar (P:=P) hf hc2 hat.length,_,?_,rfl,Exact_leaf (by simp) (by simp) _⟩
      rw[hevi]
      exact hat.mono (Nat.le_refl _) m0
     ·rename_i j
      split at h
      ·rename_i hj
       simp at h
       subst h
       obtain ⟨h4,h5,h6⟩:=Rd_fld hat hj
       have hc2:CellsAt w g (o*es.size+fo) ((((xs.drop (o*es.size)).take es.size).drop fo).take s.size):=fun j u hu=>by
        rw[List.getElem?_take] at hu
        split at hu
        ·rw[List.getElem?_drop,List.getElem?_take] at hu
         split at hu
         ·rw[List.getElem?_drop] at hu
          have:=hcell _ u hu
          simpa [Nat.add_assoc] using this
         ·cases hu
        ·cases hu
       refine ⟨[],rfl,by simp,rfl,rfl,_,by simp[Instr.loadAt,Instr.sureAddr,run_loadVar hf hc2 h4.length],_,?_,rfl,h6 _ (Exact_leaf (by simp) (by simp) _)⟩
       rw[eval_fldE,hevi]
       exact h4.mono (Nat.le_refl _) m0
      ·rename_i hne
       exact absurd hfld hne
    ·simp at h
   ·rename_i cs p hrb
    obtain ⟨fz,hb⟩:=rb_blk hrb
    split at h
    ·rename_i hsub
     have hpp:=presSub_true hsub hp
     have hin:boxIn bs r=some (cs,p):=by simp[boxIn,hb]
     obtain ⟨g,hg,rfl⟩:=hbox cs p hin hpp
     obtain ⟨g',bt,arr,h1,h2,h3,h4⟩:=hboxes r cs p hin hpp
     rw[h1] at hg
     injection hg with hg
     subst hg
     split at h
     ·rename_i hag
      split at h
      ·rename_i e f rr hu
       simp at h
       subst h
       obtain ⟨us,vr,e1,g1,x1,_⟩:=unflat_sound hrows hp hu (RdXs_drop fo h4)
       have hc2:CellsAt w g' fo us:=fun j u hu=>by
        rw[cell_of_row w g' _ arr bt (0,0) h3]
        have:(us++vr)[j]?=some u:=by rw[List.getElem?_append_left (List.getElem?_eq_some_iff.1 hu).1];exact hu
        rw[←e1,List.getElem?_drop] at this
        simpa using this
       exact ⟨f,rfl,unflat_rows hp hu,rfl,rfl,_,by simp[Instr.loadAt,Instr.sureAddr,run_loadVar hf hc2 g1.length],us,g1,rfl,x1⟩
      ·simp at h
     ·rename_i hag
      have hag:s.isAgg=false:=by simpa using hag
      split at h
      ·rename_i x hx
       simp at h
       subst h
       obtain ⟨v,hv1,hv2⟩:=RdXs_get h4 hx
       have hc2:CellsAt w g' fo [v]:=fun j u hu=>by
        rw[cell_of_row w g' _ arr bt (0,0) h3]
        cases j with
        |zero=>simp at hu;subst hu;simpa using hv1
        |succ j=>simp at hu
       have hs1:s.size=1:=by cases s<;>simp_all[Sh.isAgg,Sh.size]
       refine ⟨[],rfl,by simp,rfl,rfl,v,?_,hv2.le (Nat.le_refl _) m0 (BsLe.refl _ _ _)⟩
       have hr:=run_loadVar (P:=P) hf hc2 (by simp[hs1])
       simp only[Sh.mk,hag] at hr
       simpa [Instr.loadAt,Instr.sureAddr] using hr
      ·simp at h
    ·simp at h
   ·simp at h
  ·simp at h
 ·simp at h
theorem faddr_run {st:TypeId} {fs:Array Field} {f:Field} {j:Nat} {s:Sh} {off b o:Nat} (hu:P.underlying st=some (.struct fs)) (hf:fs[j]?=some f) (hok:faddrOk P f s off=true):
  (Instr.fieldAt st (.pointer (some ⟨b,o,none⟩)) j).run P w= .ok (.pointer (some ⟨b,o+off,none⟩)) w:=by
 simp only[faddrOk,Bool.and_eq_true,decide_eq_true_eq,bne_iff_ne] at hok
 obtain ⟨⟨⟨h1,h2⟩,h3⟩,h4⟩:=hok
 obtain ⟨i,hi⟩:=Option.isSome_iff_exists.1 h3
 have hs:i.size=s.size:=by simpa [Program.cellsOf,hi] using h4
 have hne:i.size≠0:=by rw[hs];exact h2
 simp[Instr.fieldAt,run_underlying hu,hf,Instr.sureAddr,fieldPlace,sizeOf,typeInfo,hi,hne,addr_add,h1]
theorem faddrX_sound {st:TypeId} {j:Nat} {x:Option SX} {out:Out} {v:Value} {pc:Pres} (hp:presTrue ρ pc) (h:faddrX P (rbOf bs) pc st j x=some out) (hx:∀y,x=some y→RdX w N ρ bs hv y v):
  out.cmds=[]∧out.nv=0∧out.obs=[]∧VRun P w N ρ bs hv (Instr.fieldAt st v j) out.x:=by
 unfold faddrX at h
 split at h
 ·rename_i r i fo s fs hu
  obtain ⟨hkn,hrow,hbox⟩:=hx _ rfl
  split at h
  ·rename_i s' off f hf hfs
   split at h
   ·rename_i hok
    simp only[Bool.and_eq_true] at hok
    obtain ⟨hok,hlv⟩:=hok
    split at h
    ·rename_i es e p hrb
     obtain ⟨fz,hb⟩:=rb_blk hrb
     split at h
     ·rename_i hfo
      subst hfo
      simp at h
      subst h
      have hpp:presTrue ρ p:=presSub_true (by simpa [liveR,hrb] using hlv) hp
      have hin:rowIn bs r=some (es,e,p):=by simp[rowIn,hb]
      obtain ⟨o,g,ho,hlt,hg,rfl,_,rfl⟩:=hrow es e p hin hpp
      refine ⟨rfl,rfl,rfl,_,faddr_run hu hfs hok,hkn,fun es' e' p' hin' _=>?_,fun cs p' hin' _=>?_⟩
      ·rw[hin] at hin'
       simp at hin'
       obtain ⟨rfl,rfl,rfl⟩:=hin'
       exact ⟨o,g,ho,hlt,hg,by simp,hf⟩
      ·simp[boxIn,hb] at hin'
     ·simp at h
    ·rename_i cs p hrb
     obtain ⟨fz,hb⟩:=rb_blk hrb
     simp at h
     subst h
     have hpp:presTrue ρ p:=presSub_true (by simpa [liveR,hrb] using hlv) hp
     have hin:boxIn bs r=some (cs,p):=by simp[boxIn,hb]
     obtain ⟨g,hg,rfl⟩:=hbox cs p hin hpp
     refine ⟨rfl,rfl,rfl,_,faddr_run hu hfs hok,hkn,fun es' e' p' hin' _=>?_,fun cs p' hin' _=>⟨g,hg,rfl⟩⟩
     simp[rowIn,hb] at hin'
    ·simp at h
   ·simp at h
  ·simp at h
 ·rename_i s e fs hu
  split at h
  ·rename_i s' off f hf hfs
   split at h
   ·rename_i hok
    simp at h
    subst h
    obtain ⟨b,o,us,rfl,h2,h3,h4,h5,h6⟩:=hx _ rfl
    obtain ⟨g1,g2,g3⟩:=Rd_fld h5 hf
    refine ⟨rfl,rfl,rfl,_,faddr_run hu hfs hok,b,o+off,_,rfl,h2,h3,fun k u hk=>?_,by rw[eval_fldE];exact g1,g3 e h6⟩
    rw[List.getElem?_take] at hk
    split at hk
    ·rw[List.getElem?_drop] at hk
     have:=h4 _ u hk
     simpa [Nat.add_assoc] using this
    ·cases hk
   ·simp at h
  ·simp at h
 ·simp at h
theorem nilX_sound (hrows:RowsOk w B N ρ bs hv) {pc:Pres} (hp:presTrue ρ pc) {x:Option SX} {out:Out} {v:Value} (h:nilX (rbOf bs) pc x=some out) (hx:∀y,x=some y→RdX w N ρ bs hv y v):
  out.cmds=[]∧out.nv=0∧out.obs=[]∧RdX w N ρ bs hv out.x v∧((∃a,v= .pointer (some a))∨∃f,v= .func (.func f) #[] #[]):=by
 unfold nilX at h
 split at h
 ·rename_i r i fo s fld
  split at h
  ·rename_i hlv
   simp at h
   subst h
   have hxx:=hx _ rfl
   refine ⟨rfl,rfl,rfl,hxx,.inl ?_⟩
   obtain ⟨hkn,h1,h2⟩:=hxx
   unfold liveR at hlv
   split at hlv
   ·rename_i es e p hrb
    obtain ⟨fz,hb⟩:=rb_blk hrb
    obtain ⟨o,g,_,_,_,h3,_⟩:=h1 es e p (by simp[rowIn,hb]) (presSub_true hlv hp)
    exact ⟨_,h3⟩
   ·rename_i cs p hrb
    obtain ⟨fz,hb⟩:=rb_blk hrb
    obtain ⟨g,_,h3⟩:=h2 cs p (by simp[boxIn,hb]) (presSub_true hlv hp)
    exact ⟨_,h3⟩
   ·cases hlv
  ·simp at h
 ·simp at h
  subst h
  have hxx:=hx _ rfl
  refine ⟨rfl,rfl,rfl,hxx,.inl ?_⟩
  obtain ⟨b,off,us,h1,_⟩:=hxx
  exact ⟨_,h1⟩
 ·simp at h
  subst h
  have hxx:=hx _ rfl
  exact ⟨rfl,rfl,rfl,hxx,.inr ⟨_,hxx⟩⟩
 ·simp at h
theorem elemT_spec {t et:TypeId} (h:elemT P t=some et):P.underlying t=some (.slice et):=by
 unfold elemT at h
 split at h<;>simp_all
theorem elemOk_size {et:TypeId} {s:Sh} (h:elemOk P et s=true):(sizeOf et).run P w= .ok s.size w:=by
 simp only[elemOk,Bool.and_eq_true,decide_eq_true_eq] at h
 obtain ⟨i,hi⟩:=Option.isSome_iff_exists.1 h.1
 have:i.size=s.size:=by simpa [Program.cellsOf,hi] using h.2
 simp[sizeOf,typeInfo,hi,this]
theorem eval_lenE (ρ:List C):∀(e:E),(lenE e).eval ρ= .int ((e.eval ρ).toList.length):=by
 intro e
 induction e with
 |cons h t _ ih=>
  simp only[lenE]
  split
  ·rename_i n hn
   rw[hn] at ih
   simp[E.eval] at ih ⊢
   omega
  ·simp[E.eval]
 |_=>simp[lenE,E.eval]
theorem iaddr_run {t et:TypeId} {s:Sh} (ht:P.underlying t=some (.slice et)) (hok:elemOk P et s=true) {b off len cap o:Nat} {k:IntKind} (h:o<len):
  (Instr.indexAt t (.slice (some ⟨b,off,none⟩) len cap) (.int k (o:Int))).run P w= .ok (.pointer (some ⟨b,off+o*s.size,none⟩)) w:=by
 simp[Instr.indexAt,asIntOf,run_underlying ht,elemOk_size hok,addr_add,h]
theorem inBounds_spec {pc:Pres} (hp:presTrue ρ pc) {i n:E} {nv:Nat} (h:obsHold P ρ nv (inBounds pc i n)):∃o:Nat,(i.eval ρ).toInt=(o:Int)∧(o:Int)<(n.eval ρ).toInt:=by
 unfold inBounds at h
 obtain ⟨h1,h2⟩:=asrt_app hp h
 have h3:=asrt_mem hp h2
 simp[E.eval,cmpI] at h1 h3
 exact ⟨(i.eval ρ).toInt.toNat,by omega,by omega⟩
theorem iaddrX_sound (hrows:RowsOk w B N ρ bs hv) {pc:Pres} (hp:presTrue ρ pc) {t:TypeId} {x:Option SX} {ki:IntKind} {i:Option (IntKind×E)} {out:Out} {v vi:Value} {nv:Nat}
  (h:iaddrX P (rbOf bs) pc t x i=some out) (hx:∀y,x=some y→RdX w N ρ bs hv y v) (hi:∀k e,i=some (k,e)→vi= .int k (e.eval ρ).toInt) (ho:obsHold P ρ nv out.obs):
  out.cmds=[]∧out.nv=0∧VRun P w N ρ bs hv (Instr.indexAt t v vi) out.x:=by
 unfold iaddrX at h
 split at h
 ·rename_i et s e k i ht
  split at h
  ·rename_i hok
   simp at h
   subst h
   obtain ⟨o,h1,h2⟩:=inBounds_spec hp ho
   have hvi:=hi k i rfl
   rw[h1] at hvi
   subst hvi
   obtain ⟨a,cap,h3,h4,h5,h6⟩:=RdX_sl (hx _ rfl)
   rw[eval_lenE] at h2
   simp only[C.toInt_int,Int.ofNat_lt] at h2
   simp only[List.cons.injEq,and_true] at h3
   obtain ⟨b,off,rfl,hn,hlt,hra⟩:=h6 (by intro h;rw[h] at h2;simp at h2)
   subst h3
   obtain ⟨c,hc⟩:∃c,(e.eval ρ).toList[o]?=some c:=⟨_,List.getElem?_eq_getElem h2⟩
   obtain ⟨us,hl,hca,hrd⟩:=hra o c hc
   refine ⟨rfl,rfl,_,iaddr_run (elemT_spec ht) hok h2,b,_,us,rfl,hn,hlt,hca,?_,Exact_leaf (by simp) (by simp) _⟩
   simpa [E.eval,h1,List.getD,hc] using hrd
  ·simp at h
 ·rename_i et r n k i ht
  split at h
  ·rename_i s e hr
   split at h
   ·rename_i hok
    simp at h
    subst h
    obtain ⟨o,h1,h2⟩:=inBounds_spec hp ho
    have hvi:=hi k i rfl
    rw[h1] at hvi
    subst hvi
    obtain ⟨p,hin,hpp⟩:=rowOf_in hp hr
    obtain ⟨hkn,hxx⟩:=hx _ rfl
    obtain ⟨rfl,hlen⟩:=hxx _ _ p hin hpp
    obtain ⟨et',xs,hown,_,_⟩:=hrows.row r _ _ p hin hpp
    rw[hlen] at h2
    have h2:o<(e.eval ρ).toList.length:=by omega
    rcases own_cells hown with ⟨_,h6,_⟩|⟨g,cap,h5,h6,h7,_,_,_⟩
    ·omega
    ·refine ⟨rfl,rfl,_,by rw[h5];exact iaddr_run (elemT_spec ht) hok h2,hkn,fun es' e' p' hin' _=>?_,fun cs p' hin' _=>?_⟩
     ·rw[hin] at hin'
      simp at hin'
      obtain ⟨rfl,rfl,rfl⟩:=hin'
      exact ⟨o,g,h1,h2,by rw[h5];rfl,by simp,rfl,rfl⟩
     ·unfold rowIn at hin
      unfold boxIn at hin'
      split at hin<;>simp_all
   ·simp at h
  ·simp at h
 ·rename_i et r off n k i ht
  split at h
  ·rename_i s e hr
   split at h
   ·rename_i hok
    simp at h
    subst h
    obtain ⟨o,h1,h2⟩:=inBounds_spec hp ho
    have hvi:=hi k i rfl
    rw[h1] at hvi
    subst hvi
    obtain ⟨p,hin,hpp⟩:=rowOf_in hp hr
    obtain ⟨hkn,hxx⟩:=hx _ rfl
    obtain ⟨o',m,ho',hm,hle,a,cap,rfl,hmc,hcm,ha⟩:=hxx _ _ p hin hpp
    rw[hm] at h2
    have h2:o<m:=by omega
    obtain ⟨g,hg,rfl⟩:=ha (by omega)
    refine ⟨rfl,rfl,_,iaddr_run (elemT_spec ht) hok h2,hkn,fun es' e' p' hin' _=>?_,fun cs p' hin' _=>?_⟩
    ·rw[hin] at hin'
     simp at hin'
     obtain ⟨rfl,rfl,rfl⟩:=hin'
     exact ⟨o'+o,g,by simp[E.eval,rawArith,ho',h1],by omega,hg,by simp[Nat.add_mul],rfl,rfl⟩
    ·unfold rowIn at hin
     unfold boxIn at hin'
     split at hin<;>simp_all
   ·simp at h
  ·simp at h
 ·simp at h
end
end Go.Vc

namespace Go.Vc
open Go.RowKit
section
variable {P:Program} {w:World} {B:Nat→Prop} {N:Nat→Prop} {ρ:List C} {bs:List Blk} {hv:Nat→Value}
theorem indexX_sound {pc:Pres} (hp:presTrue ρ pc) {t:TypeId} {x:Option SX} {i:Option (IntKind×E)} {out:Out} {v vi:Value} {nv:Nat}
  (h:indexX P pc t x i=some out) (hx:∀y,x=some y→RdX w N ρ bs hv y v) (hi:∀k e,i=some (k,e)→vi= .int k (e.eval ρ).toInt) (ho:obsHold P ρ nv out.obs):
  out.cmds=[]∧out.nv=0∧VRun P w N ρ bs hv (Instr.index t v vi) out.x:=by
 unfold indexX at h
 split at h
 ·rename_i e k i ht
  simp at h
  subst h
  obtain ⟨o,h1,h2⟩:=inBounds_spec hp ho
  have hvi:=hi k i rfl
  rw[h1] at hvi
  subst hvi
  have hxx:=hx _ rfl
  rw[RdX_str] at hxx
  subst hxx
  simp[E.eval] at h2
  refine ⟨rfl,rfl,.int .u8 ((e.eval ρ).toStr[o]).toNat,?_,by rw[RdX_int];simp[E.eval,h1,List.getD,h2]⟩
  have hg:(⟨(e.eval ρ).toStr.toArray⟩:ByteArray)[o]?=some (e.eval ρ).toStr[o]:=by
   rw[getElem?_pos _ o (by simpa [ByteArray.size] using h2)]
   simp[ByteArray.getElem_eq_getElem_data]
  simp[Instr.index,asIntOf,run_underlying ht,hg]
 ·simp at h
theorem cutOb_spec {pc:Pres} (hp:presTrue ρ pc) {lo hi n:E} {nv:Nat} (h:obsHold P ρ nv (cutOb pc lo hi n)):
  ∃l k:Nat,(lo.eval ρ).toInt=(l:Int)∧(hi.eval ρ).toInt=(k:Int)∧l≤k∧(k:Int)≤(n.eval ρ).toInt:=by
 unfold cutOb at h
 obtain ⟨h1,h2⟩:=asrt_app hp h
 obtain ⟨h3,h4⟩:=asrt_app hp h2
 have h5:=asrt_mem hp h4
 simp[E.eval,cmpI] at h1 h3 h5
 exact ⟨(lo.eval ρ).toInt.toNat,(hi.eval ρ).toInt.toNat,by omega,by omega,by omega,by omega⟩
/-- A bound of a slice expression: absent, or a number. -/
def BoundIs (ρ:List C) (d:E) (o:Option Value) (e:E):Prop:=(o=none∧e=d)∨∃k,o=some (.int k (e.eval ρ).toInt)
theorem run_bounds (isSlice:Bool) {lo hi:Option Value} {el eh n:E} {l k cap:Nat} (hl:BoundIs ρ (.int 0) lo el) (hh:BoundIs ρ n hi eh) {len:Nat} (hn:(n.eval ρ).toInt=(len:Int))
  (h1:(el.eval ρ).toInt=(l:Int)) (h2:(eh.eval ρ).toInt=(k:Int)) (h3:l≤k) (h4:k≤cap):
  (Instr.sliceBounds isSlice len cap lo hi none).run P w= .ok (l,k,cap) w:=by
 rcases hl with ⟨rfl,rfl⟩|⟨k1,rfl⟩
 ·simp[E.eval] at h1
  rcases hh with ⟨rfl,rfl⟩|⟨k2,rfl⟩
  ·have:len=k:=by omega
   subst this
   have:l=0:=by omega
   subst this
   simp[Instr.sliceBounds]
  ·have:l=0:=by omega
   subst this
   rw[h2]
   simp[Instr.sliceBounds,Instr.sliceBound,asIntOf,h4]
 ·rcases hh with ⟨rfl,rfl⟩|⟨k2,rfl⟩
  ·have:len=k:=by omega
   subst this
   rw[h1]
   simp[Instr.sliceBounds,Instr.sliceBound,asIntOf,h3]
  ·rw[h1,h2]
   simp[Instr.sliceBounds,Instr.sliceBound,asIntOf,h3,h4]
theorem sliceAt_slice {t et:TypeId} (ht:P.underlying t=some (.slice et)) (x:Value) (lo hi mx:Option Value):(Instr.sliceAt t x lo hi mx).run P w=(Instr.slice t x lo hi mx).run P w:=by
 simp[Instr.sliceAt,run_underlying ht]
theorem sliceAt_string {t:TypeId} (ht:P.underlying t=some .string) (x:Value) (lo hi mx:Option Value):(Instr.sliceAt t x lo hi mx).run P w=(Instr.slice t x lo hi mx).run P w:=by
 simp[Instr.sliceAt,run_underlying ht]
theorem run_slice_sl {t et:TypeId} {s:Sh} (ht:P.underlying t=some (.slice et)) (hok:elemOk P et s=true) {a:Option Addr} {len cap:Nat} {lo hi:Option Value} {l k:Nat}
  (hb:(Instr.sliceBounds true len cap lo hi none).run P w= .ok (l,k,cap) w):
  (Instr.sliceAt t (.slice a len cap) lo hi none).run P w= .ok (.slice (if cap=l then a else a.map (·.add (l*s.size))) (k-l) (cap-l)) w:=by
 rw[sliceAt_slice ht]
 simp[Instr.slice,run_underlying ht,hb,elemOk_size hok]
theorem extract_list (s:List UInt8) (l h:Nat):(⟨s.toArray⟩:ByteArray).extract l h=⟨((s.take h).drop l).toArray⟩:=by
 apply ByteArray.ext
 simp[ByteArray.data_extract,List.take_drop]
 by_cases hlh:l≤h
 ·rw[Nat.add_sub_cancel' hlh]
 ·rw[List.drop_of_length_le (by simp;omega),List.drop_of_length_le (by simp;omega)]
theorem sliceX_sound (hrows:RowsOk w B N ρ bs hv) {pc:Pres} (hp:presTrue ρ pc) {ev:Ev} {a:Act} (hev:∀o k e,ev pc o 0=some (.dat (.int k) e)→a.eval o= .int k (e.eval ρ).toInt)
  {t:TypeId} {x:Option SX} {lo hi:Option Operand} {out:Out} {v:Value} {nv:Nat} (h:sliceX P ev (rbOf bs) pc t x lo hi=some out) (hx:∀y,x=some y→RdX w N ρ bs hv y v) (ho:obsHold P ρ nv out.obs):
  out.cmds=[]∧out.nv=0∧VRun P w N ρ bs hv (Instr.sliceAt t v (lo.map a.eval) (hi.map a.eval) none) out.x:=by
 have bnd:∀ {o:Option Operand} {d e:E},boundX ev pc d o=some e→BoundIs ρ d (o.map a.eval) e:=by
  intro o d e h
  unfold boundX at h
  cases o with
  |none=>simp at h;exact .inl ⟨rfl,h.symm⟩
  |some o=>
   simp only at h
   split at h
   ·rename_i k e' hi
    simp at h
    subst h
    unfold intOf? at hi
    split at hi
    ·rename_i k' e'' he
     simp at hi
     obtain ⟨rfl,rfl⟩:=hi
     exact .inr ⟨k',by simp[hev o _ _ he]⟩
    ·simp at hi
   ·simp at h
 unfold sliceX at h
 split at h
 ·rename_i e el ht hl
  split at h
  ·rename_i eh hh
   simp at h
   subst h
   obtain ⟨l,k,h1,h2,h3,h4⟩:=cutOb_spec hp ho
   have hxx:=hx _ rfl
   rw[RdX_str] at hxx
   subst hxx
   have hn:((E.slen e).eval ρ).toInt=((e.eval ρ).toStr.length:Int):=by simp[E.eval]
   rw[hn] at h4
   have hb:=run_bounds (P:=P) (w:=w) false (bnd hl) (bnd hh) hn h1 h2 h3 (cap:=(e.eval ρ).toStr.length) (by omega)
   refine ⟨rfl,rfl,.string ⟨(((e.eval ρ).toStr.take k).drop l).toArray⟩,?_,by rw[RdX_str];simp[E.eval,h1,h2]⟩
   rw[sliceAt_string ht]
   have hsz:ByteArray.size ⟨(e.eval ρ).toStr.toArray⟩=(e.eval ρ).toStr.length:=by show (e.eval ρ).toStr.toArray.size=_;simp
   simp[Instr.slice,run_underlying ht,hsz,hb,extract_list]
  ·simp at h
 ·rename_i et s e el ht hl
  split at h
  ·rename_i hok
   split at h
   ·rename_i eh hh
    simp at h
    subst h
    obtain ⟨l,k,h1,h2,h3,h4⟩:=cutOb_spec hp ho
    obtain ⟨ad,cap,g3,g4,g5,g6⟩:=RdX_sl (hx _ rfl)
    simp only[List.cons.injEq,and_true] at g3
    subst g3
    have hn:((lenE e).eval ρ).toInt=((e.eval ρ).toList.length:Int):=by rw[eval_lenE];rfl
    rw[hn] at h4
    have h4:k≤(e.eval ρ).toList.length:=by omega
    have hb:=run_bounds (P:=P) (w:=w) true (bnd hl) (bnd hh) hn h1 h2 h3 (cap:=cap) (by omega)
    have hlen:(((e.eval ρ).toList.take k).drop l).length=k-l:=by simp;omega
    refine ⟨rfl,rfl,_,run_slice_sl ht hok hb,?_⟩
    refine ⟨[.slice (if cap=l then ad else ad.map (·.add (l*s.size))) (k-l) (cap-l)],⟨_,_,by simp only[E.eval,C.toList_ls,h1,h2,Int.toNat_natCast,hlen];rfl,?_,?_,fun hne=>?_⟩,by simp[Sh.mk,Sh.isAgg],Exact_leaf (by simp) (by simp) _⟩
    ·simp only[E.eval,C.toList_ls,h1,h2,Int.toNat_natCast,hlen];omega
    ·omega
    ·simp only[E.eval,C.toList_ls,h1,h2,Int.toNat_natCast] at hne ⊢
     have hkl:l<k:=by
      rcases Nat.lt_or_ge l k with h|h
      ·exact h
      ·exact absurd (List.eq_nil_of_length_eq_zero (by omega)) hne
     obtain ⟨b,off,rfl,hN,hlt,hra⟩:=g6 (by intro h;rw[h] at h4;simp at h4;omega)
     rw[if_neg (by omega)]
     refine ⟨b,off+l*s.size,by simp[addr_add],hN,hlt,fun i c hc=>?_⟩
     rw[List.getElem?_drop,List.getElem?_take] at hc
     split at hc
     ·obtain ⟨us,q1,q2,q3⟩:=hra _ c hc
      exact ⟨us,q1,by rw[Nat.add_mul,←Nat.add_assoc] at q2;exact q2,q3⟩
     ·cases hc
   ·simp at h
  ·simp at h
 ·rename_i et r n el ht hl
  split at h
  ·rename_i s e eh hr hh
   split at h
   ·rename_i hok
    simp at h
    subst h
    obtain ⟨l,k,h1,h2,h3,h4⟩:=cutOb_spec hp ho
    obtain ⟨p,hin,hpp⟩:=rowOf_in hp hr
    obtain ⟨hkn,hxx⟩:=hx _ rfl
    obtain ⟨rfl,hlen⟩:=hxx _ _ p hin hpp
    obtain ⟨et',xs,hown,_,_⟩:=hrows.row r _ _ p hin hpp
    rw[hlen] at h4
    have h4:k≤(e.eval ρ).toList.length:=by omega
    obtain ⟨ad,cap,hv1,hv2,hv3,hv4⟩:∃ad cap,hv r= .slice ad (e.eval ρ).toList.length cap∧(e.eval ρ).toList.length≤cap∧cap≤maxLen∧(0<(e.eval ρ).toList.length→∃g,blkNo (hv r)=some g∧ad=some ⟨g,0,none⟩):=by
     rcases own_cells hown with ⟨h5,h6,_⟩|⟨g,cap,h5,h6,h7,_,_,_⟩
     ·exact ⟨none,0,by rw[h6];exact h5,by omega,by simp,fun h=>by omega⟩
     ·exact ⟨_,cap,h5,h6,h7,fun _=>⟨g,by rw[h5];rfl,rfl⟩⟩
    have hb:=run_bounds (P:=P) (w:=w) true (bnd hl) (bnd hh) hlen h1 h2 h3 (cap:=cap) (by omega)
    refine ⟨rfl,rfl,_,by rw[hv1];exact run_slice_sl ht hok hb,hkn,fun s' e' p' hin' _=>?_⟩
    rw[hin] at hin'
    simp at hin'
    obtain ⟨rfl,rfl,rfl⟩:=hin'
    refine ⟨l,k-l,h1,by simp[E.eval,rawArith,h1,h2];omega,by omega,_,_,rfl,by omega,by omega,fun hm=>?_⟩
    obtain ⟨g,hg,rfl⟩:=hv4 (by omega)
    exact ⟨g,hg,by rw[if_neg (by omega)];simp[addr_add]⟩
   ·simp at h
  ·simp at h
 ·rename_i et r off n el ht hl
  split at h
  ·rename_i s e eh hr hh
   split at h
   ·rename_i hok
    simp at h
    subst h
    obtain ⟨l,k,h1,h2,h3,h4⟩:=cutOb_spec hp ho
    obtain ⟨p,hin,hpp⟩:=rowOf_in hp hr
    obtain ⟨hkn,hxx⟩:=hx _ rfl
    obtain ⟨o,m,ho',hm,hle,ad,cap,rfl,hmc,hcm,ha⟩:=hxx _ _ p hin hpp
    rw[hm] at h4
    have hb:=run_bounds (P:=P) (w:=w) true (bnd hl) (bnd hh) hm h1 h2 h3 (cap:=cap) (by omega)
    refine ⟨rfl,rfl,_,run_slice_sl ht hok hb,hkn,fun s' e' p' hin' _=>?_⟩
    rw[hin] at hin'
    simp at hin'
    obtain ⟨rfl,rfl,rfl⟩:=hin'
    refine ⟨o+l,k-l,by simp[E.eval,rawArith,h1,ho'],by simp[E.eval,rawArith,h1,h2];omega,by omega,_,_,rfl,by omega,by omega,fun hm=>?_⟩
    obtain ⟨g,hg,rfl⟩:=ha (by omega)
    exact ⟨g,hg,by rw[if_neg (by omega)];simp[addr_add,Nat.add_mul]⟩
   ·simp at h
  ·simp at h
 ·simp at h
theorem run_len_slice {t e:TypeId} (ht:P.underlying t=some (.slice e)) (ty:TypeId) (a:Option Addr) (n c:Nat):(Builtin.len_ #[t] ty #[.slice a n c]).run P w= .ok (.int .i64 n) w:=by
 simp[Builtin.len_,run_underlying ht,goInt]
theorem lenX_sound (hrows:RowsOk w B N ρ bs hv) {pc:Pres} (hp:presTrue ρ pc) {t ty:TypeId} {x:Option SX} {out:Out} {v:Value} (h:lenX P (rbOf bs) pc t x=some out) (hx:∀y,x=some y→RdX w N ρ bs hv y v):
  out.cmds=[]∧out.nv=0∧out.obs=[]∧VRun P w N ρ bs hv (Builtin.len_ #[t] ty #[v]) out.x:=by
 unfold lenX at h
 split at h
 ·rename_i e ht
  simp at h
  subst h
  have hxx:=hx _ rfl
  rw[RdX_str] at hxx
  subst hxx
  have hsz:ByteArray.size ⟨(e.eval ρ).toStr.toArray⟩=(e.eval ρ).toStr.length:=by show (e.eval ρ).toStr.toArray.size=_;simp
  refine ⟨rfl,rfl,rfl,.int .i64 (e.eval ρ).toStr.length,?_,by rw[RdX_int];simp[E.eval]⟩
  simp[Builtin.len_,run_underlying ht,goInt,hsz]
 ·rename_i s e et ht
  simp at h
  subst h
  obtain ⟨ad,cap,g3,g4,g5,g6⟩:=RdX_sl (hx _ rfl)
  simp only[List.cons.injEq,and_true] at g3
  subst g3
  exact ⟨rfl,rfl,rfl,_,run_len_slice ht _ _ _ _,by rw[RdX_int,eval_lenE];rfl⟩
 ·rename_i et r n ht
  split at h
  ·rename_i y hr
   simp at h
   subst h
   obtain ⟨s,e⟩:=y
   obtain ⟨p,hin,hpp⟩:=rowOf_in hp hr
   obtain ⟨hkn,hxx⟩:=hx _ rfl
   obtain ⟨rfl,hlen⟩:=hxx _ _ p hin hpp
   obtain ⟨et',xs,hown,_,_⟩:=hrows.row r _ _ p hin hpp
   rcases own_cells hown with ⟨h5,h6,_⟩|⟨g,cap,h5,h6,h7,_,_,_⟩
   ·exact ⟨rfl,rfl,rfl,_,by rw[h5];exact run_len_slice ht _ _ _ _,by rw[RdX_int,hlen,h6]⟩
   ·exact ⟨rfl,rfl,rfl,_,by rw[h5];exact run_len_slice ht _ _ _ _,by rw[RdX_int,hlen]⟩
  ·simp at h
 ·rename_i et r off n ht
  split at h
  ·rename_i y hr
   simp at h
   subst h
   obtain ⟨s,e⟩:=y
   obtain ⟨p,hin,hpp⟩:=rowOf_in hp hr
   obtain ⟨hkn,hxx⟩:=hx _ rfl
   obtain ⟨o,m,ho',hm,hle,ad,cap,rfl,hmc,hcm,ha⟩:=hxx _ _ p hin hpp
   exact ⟨rfl,rfl,rfl,_,run_len_slice ht _ _ _ _,by rw[RdX_int,hm]⟩
  ·simp at h
 ·simp at h
theorem mmX_min {x y:Option SX} {out:Out} {v u:Value} {ts:Array TypeId} {ty:TypeId} (h:mmX .minI x y=some out) (hx:∀z,x=some z→RdX w N ρ bs hv z v) (hy:∀z,y=some z→RdX w N ρ bs hv z u):
  out.cmds=[]∧out.nv=0∧out.obs=[]∧VRun P w N ρ bs hv (Builtin.min_ ts ty #[v,u]) out.x:=by
 unfold mmX at h
 split at h
 ·rename_i k a k' b
  split at h
  ·rename_i hk
   subst hk
   simp at h
   subst h
   have h1:=hx _ rfl
   have h2:=hy _ rfl
   rw[RdX_int] at h1 h2
   subst h1 h2
   refine ⟨rfl,rfl,rfl,_,run_min_int2 _ _ _ _ _ _ _,?_⟩
   rw[RdX_int]
   congr 1
   simp only[E.eval,C.toInt_int]
   split<;>omega
  ·simp at h
 ·simp at h
theorem mmX_max {x y:Option SX} {out:Out} {v u:Value} {ts:Array TypeId} {ty:TypeId} (h:mmX .maxI x y=some out) (hx:∀z,x=some z→RdX w N ρ bs hv z v) (hy:∀z,y=some z→RdX w N ρ bs hv z u):
  out.cmds=[]∧out.nv=0∧out.obs=[]∧VRun P w N ρ bs hv (Builtin.max_ ts ty #[v,u]) out.x:=by
 unfold mmX at h
 split at h
 ·rename_i k a k' b
  split at h
  ·rename_i hk
   subst hk
   simp at h
   subst h
   have h1:=hx _ rfl
   have h2:=hy _ rfl
   rw[RdX_int] at h1 h2
   subst h1 h2
   refine ⟨rfl,rfl,rfl,_,run_max_int2 _ _ _ _ _ _ _,?_⟩
   rw[RdX_int]
   congr 1
   simp only[E.eval,C.toInt_int]
   split<;>omega
  ·simp at h
 ·simp at h
theorem RdRow_int {k:IntKind}:∀ {l:List C} {xs:List Value},RdRow w N (.int k) xs l↔xs=l.map fun c=> .int k c.toInt
 | [],xs=>by simp[RdRow]
 |c::l,xs=>by
  simp only[RdRow,RdRow_int (l:=l),Rd,List.map_cons]
  constructor
  ·rintro ⟨u,r,rfl,rfl,rfl⟩;rfl
  ·rintro rfl;exact ⟨_,_,rfl,rfl,rfl⟩
theorem foldl_push:∀(l:List Int) (s:List UInt8),l.foldl (fun r n=>r.push (UInt8.ofNat n.toNat)) (⟨s.toArray⟩:ByteArray)=⟨(s++l.map fun n=>UInt8.ofNat n.toNat).toArray⟩
 | [],s=>by simp
 |n::l,s=>by
  have h:(⟨s.toArray⟩:ByteArray).push (UInt8.ofNat n.toNat)=⟨(s++ [UInt8.ofNat n.toNat]).toArray⟩:=by
   apply ByteArray.ext
   simp[ByteArray.push]
  rw[List.foldl_cons,h,foldl_push l]
  simp
theorem run_toStr {v:Value} {c:C} (h:Rd w N (.sl (.int .u8)) [v] c):(Conv.bytesToString v).run P w= .ok (.string ⟨(bytesOf c.toList).toArray⟩) w:=by
 obtain ⟨a,cap,h1,h2,h3,h4⟩:=h
 simp only[List.cons.injEq,and_true] at h1
 subst h1
 by_cases hne:c.toList=[]
 ·cases a with
  |none=>simp[Conv.bytesToString,hne,bytesOf];rfl
  |some a=>
   have hr:=run_bytesToString (P:=P) w a 0 cap [] (by simp[loadCells,loadCellsFrom])
   rw[hne]
   exact hr
 ·obtain ⟨b,off,rfl,_,_,hra⟩:=h4 hne
  obtain ⟨xs,hx,hc⟩:=RowAt.row (s:= .int .u8) hra
  rw[RdRow_int] at hx
  have hl:(loadCells ⟨b,off,none⟩ c.toList.length).run P w= .ok ((c.toList.map C.toInt).map (Value.int .u8)).toArray w:=by
   have:=run_loadCells_list (P:=P) w ⟨b,off,none⟩ xs (fun j v hv=>by rw[addr_add];exact hc j v hv)
   rw[hx] at this
   simpa [Function.comp_def] using this
  have hr:=run_bytesToString (P:=P) w ⟨b,off,none⟩ c.toList.length cap (c.toList.map C.toInt) hl
  rw[hr]
  have e:=foldl_push (c.toList.map C.toInt) []
  simp only[List.nil_append] at e
  rw[show ByteArray.empty=(⟨([]:List UInt8).toArray⟩:ByteArray) from rfl,e]
  simp[bytesOf]
/-- What an operation comes to that may make memory. -/
def GRun (P:Program) (w:World) (N:Nat→Prop) (ρ:List C) (bs:List Blk) (hv:Nat→Value) (m:Sem Value) (x:SX):Prop:=
 ∃v w',m.run P w= .ok v w'∧Below w.heap.size w w'∧RdX w' N ρ bs hv x v
theorem VRun.grun {m:Sem Value} {x:SX} (h:VRun P w N ρ bs hv m x):GRun P w N ρ bs hv m x:=let ⟨v,h1,h2⟩:=h;⟨v,w,h1,Below.refl _ _,h2⟩
theorem run_ofStr {et:TypeId} (s:List UInt8) (hs:(s.length:Int)≤9223372036854775807) (hN:∀b,w.heap.size≤b→N b):∃v w',(Conv.stringToBytes et ⟨s.toArray⟩).run P w= .ok v w'∧Below w.heap.size w w'∧Rd w' N (.sl (.int .u8)) [v] (.ls (ofBytes s)):=by
 have hge:=grownCap_ge w s.length 0 et
 have hcm:grownCap w s.length 0 et≤maxLen:=grownCap_le_maxLen w s.length 0 et (by simp only[maxLen];omega)
 have hsz:ByteArray.size ⟨s.toArray⟩=s.length:=by show s.toArray.size=_;simp
 refine ⟨.slice (some ⟨w.heap.size,0,none⟩) s.length (grownCap w s.length 0 et),
  (w.drew.alloc (.cells ((s.map fun b=>Value.int .u8 (b.toNat:Int)).toArray++Array.replicate (grownCap w s.length 0 et-s.length) (.int .u8 0)) et)).freeze ⟨w.heap.size,grownCap w s.length 0 et,none⟩ 1,?_,?_,?_⟩
 ·have hgc:(Question.appendCap s.length 0 et).cut (w.tape w.drawn (Question.appendCap s.length 0 et))=grownCap w s.length 0 et:=rfl
  have hsh:∀(arr:Array Value),(w.drew.alloc (.cells arr et)).shape? w.heap.size=some (et,arr.size):=fun arr=>by
   have:=heap_alloc_new w.drew (.cells arr et)
   rw[heap_drew] at this
   unfold World.shape?
   rw[this]
  have hcs:s.length+(grownCap w s.length 0 et-s.length)=grownCap w s.length 0 et:=by omega
  simp[Conv.stringToBytes,hsz,Question.forced,newRow,markStringish,hgc,hsh,hcs]
 ·refine ⟨rfl,rfl,rfl,by simp[World.freeze],fun k hk=>?_⟩
  simp only[World.freeze]
  rw[if_neg (by omega)]
  simp only[Array.getElem?_modify]
  rw[if_neg (by omega)]
  exact Below.heap_alloc w.drew _ k hk
 ·have hlen:(ofBytes s).length=s.length:=by simp[ofBytes]
  refine ⟨_,_,by simp only[C.toList_ls,hlen],by simp only[C.toList_ls,hlen];exact hge,hcm,fun _=>⟨w.heap.size,0,rfl,hN _ (Nat.le_refl _),by simp[World.freeze],?_⟩⟩
  have hhp:=heap_alloc_new w.drew (.cells ((s.map fun b=>Value.int .u8 (b.toNat:Int)).toArray++Array.replicate (grownCap w s.length 0 et-s.length) (.int .u8 0)) et)
  rw[heap_drew] at hhp
  refine RowAt.of_row (s:= .int .u8) (xs:=s.map fun b=>Value.int .u8 (b.toNat:Int)) ?_ fun j u hu=>?_
  ·rw[RdRow_int]
   simp[ofBytes,Function.comp_def]
  ·have hj:j<s.length:=by have:=(List.getElem?_eq_some_iff.1 hu).1;simpa using this
   have hh:∀fr,((w.drew.alloc (.cells ((s.map fun b=>Value.int .u8 (b.toNat:Int)).toArray++Array.replicate (grownCap w s.length 0 et-s.length) (.int .u8 0)) et)).freeze ⟨w.heap.size,grownCap w s.length 0 et,none⟩ 1).heap[w.heap.size]?=some fr→
     ∃f,fr= .cells ((s.map fun b=>Value.int .u8 (b.toNat:Int)).toArray++Array.replicate (grownCap w s.length 0 et-s.length) (.int .u8 0)) et f:=by
    intro fr hfr
    simp only[World.freeze] at hfr
    rw[if_neg (by omega)] at hfr
    simp only[Array.getElem?_modify,if_true,hhp,Option.map_some,Option.some.injEq] at hfr
    exact ⟨_,hfr.symm⟩
   have hex:∃fr,((w.drew.alloc (.cells ((s.map fun b=>Value.int .u8 (b.toNat:Int)).toArray++Array.replicate (grownCap w s.length 0 et-s.length) (.int .u8 0)) et)).freeze ⟨w.heap.size,grownCap w s.length 0 et,none⟩ 1).heap[w.heap.size]?=some fr:=
    ⟨_,Array.getElem?_eq_getElem (by simp[World.freeze])⟩
   obtain ⟨fr,hfr⟩:=hex
   obtain ⟨f,rfl⟩:=hh fr hfr
   rw[cell_of_row _ _ _ _ et f hfr,Nat.zero_add]
   simp only[List.getElem?_map] at hu
   simp[Array.getElem?_append,hj]
   simpa [List.getElem?_eq_getElem hj] using hu
theorem convX_sound (hrows:RowsOk w B N ρ bs hv) {pc:Pres} (hp:presTrue ρ pc) {src dst:TypeId} {x:Option SX} {out:Out} {v:Value} {nv:Nat} (h:convX P (rbOf bs) pc src dst x=some out)
  (hx:∀y,x=some y→RdX w N ρ bs hv y v) (ho:obsHold P ρ nv out.obs) (hN:∀b,w.heap.size≤b→N b):
  out.cmds=[]∧out.nv=0∧GRun P w N ρ bs hv (convert src dst v) out.x:=by
 unfold convX at h
 split at h
 ·rename_i d k k' e hs hd
  simp at h
  subst h
  have hxx:=hx _ rfl
  rw[RdX_int] at hxx
  subst hxx
  refine ⟨rfl,rfl,VRun.grun ⟨.int k (k.wrap (e.eval ρ).toInt),?_,by rw[RdX_int];rfl⟩⟩
  simp[convert,run_underlying hs,run_underlying hd,Conv.intToInt]
 ·rename_i e hs hd
  simp at h
  subst h
  have hxx:=hx _ rfl
  rw[RdX_str] at hxx
  subst hxx
  refine ⟨rfl,rfl,VRun.grun ⟨_,?_,by rw[RdX_str]⟩⟩
  simp[convert,run_underlying hs,run_underlying hd]
 ·rename_i t x hs hd
  split at h
  ·rename_i e f ht hdat
   simp at h
   subst h
   have hxx:=RdX_sl (datOf_sound hrows hp hdat (hx _ rfl))
   obtain ⟨a,cap,h1,_⟩:=id hxx
   simp only[List.cons.injEq,and_true] at h1
   refine ⟨rfl,rfl,VRun.grun ⟨.string ⟨(bytesOf (e.eval ρ).toList).toArray⟩,?_,by rw[RdX_str];rfl⟩⟩
   rw[←run_toStr (P:=P) hxx,h1,run_convert_bytes_string w src dst t _ _ _ hs ht hd]
  ·simp at h
 ·rename_i t e hs hd
  split at h
  ·rename_i ht
   simp at h
   subst h
   have hxx:=hx _ rfl
   rw[RdX_str] at hxx
   subst hxx
   have h0:=ho.1 hp
   simp[E.eval,IntKind.max,IntKind.signed,IntKind.bits] at h0
   obtain ⟨v,w',h1,h2,h3⟩:=run_ofStr (P:=P) (w:=w) (N:=N) (et:=t) (e.eval ρ).toStr h0.2 hN
   refine ⟨rfl,rfl,v,w',?_,h2,[v],h3,by simp[Sh.mk,Sh.isAgg],Exact_leaf (by simp) (by simp) _⟩
   simp[convert,run_underlying hs,run_underlying hd,run_underlying ht,h1]
  ·simp at h
 ·simp at h
end
end Go.Vc

namespace Go.Vc
open Go.RowKit

/-- The shape of a struct with these fields. -/
def ofL:List Sh→Sh
 | []=> .unit
 |s::l=> .pair s (ofL l)
theorem ofL_agg:∀l,(ofL l).isAgg=true
 | []=>rfl
 |_::_=>rfl
section
variable {P:Program} {w:World} {B:Nat→Prop} {N:Nat→Prop} {ρ:List C} {bs:List Blk} {hv:Nat→Value}
/-- The fields' cells, one behind the other. -/
def FieldsRd (w:World) (N:Nat→Prop) (ρ:List C):List (Sh×E)→List Value→Prop
 | [],vs=>vs=[]
 |(s,e)::l,vs=>∃u r,vs=u++r∧Rd w N s u (e.eval ρ)∧Exact s e u∧FieldsRd w N ρ l r
theorem FieldsRd.mono {w':World} {N':Nat→Prop} (hs:w.heap.size≤w'.heap.size) (hk:∀b,N b→b<w.heap.size→w'.heap[b]?=w.heap[b]?∧N' b):∀ {l:List (Sh×E)} {vs:List Value},FieldsRd w N ρ l vs→FieldsRd w' N' ρ l vs
 | [],_,h=>h
 |(_,_)::_,_,⟨u,r,h1,h2,h3,h4⟩=>⟨u,r,h1,h2.mono hs hk,h3,FieldsRd.mono hs hk h4⟩
theorem FieldsRd.whole:∀ {l:List (Sh×E)} {vs:List Value},FieldsRd w N ρ l vs→Rd w N (ofL (l.map (·.1))) vs ((consE (l.map (·.2))).eval ρ)∧Exact (ofL (l.map (·.1))) (consE (l.map (·.2))) vs
 | [],_,h=>⟨h,by simp[ofL,Exact]⟩
 |(s,e)::l,_,⟨u,r,h1,h2,h3,h4⟩=>by
  obtain ⟨h5,h6⟩:=FieldsRd.whole h4
  refine ⟨⟨ofL_agg _,u,r,h1,?_,?_⟩,⟨u,r,h1,h2.length,h3,h6⟩⟩
  ·simpa [consE,E.eval,C.hd] using h2
  ·exact h5.of_list (ofL_agg _) (by simp[consE,E.eval,C.tl])
theorem fieldsOf_sound:∀ {s:Sh} {e:E} {l:List (Sh×E)} {vs:List Value},fieldsOf s e=some l→Rd w N s vs (e.eval ρ)→Exact s e vs→FieldsRd w N ρ l vs∧s=ofL (l.map (·.1))
 | .unit,e,l,vs,h,hr,_=>by
  simp[fieldsOf] at h
  subst h
  exact ⟨hr,rfl⟩
 | .pair a b,e,l,vs,h,hr,hx=>by
  simp[fieldsOf] at h
  obtain ⟨l',h,rfl⟩:=h
  obtain ⟨h0,va,vb,rfl,h1,h2⟩:=hr
  obtain ⟨x1,x2⟩:=Exact_hd hx h1.length
  obtain ⟨h3,h4⟩:=fieldsOf_sound h (h2.of_list h0 (eval_mkTl ρ e).symm) x2
  exact ⟨⟨va,vb,rfl,by rw[eval_mkHd];exact h1,x1,h3⟩,by simp[ofL,←h4]⟩
 | .int _,_,_,_,h,_,_| .bool,_,_,_,h,_,_| .str,_,_,_,h,_,_| .sl _,_,_,_,h,_,_| .ifc _ _,_,_,_,h,_,_| .nili,_,_,_,h,_,_| .fun_ _,_,_,_,h,_,_| .mp _ _,_,_,_,h,_,_=>by simp[fieldsOf] at h
/-- Where the i-th field begins. -/
def offL (l:List (Sh×E)) (i:Nat):Nat:=((l.take i).map (·.1.size)).sum
theorem FieldsRd.length:∀ {l:List (Sh×E)} {vs:List Value},FieldsRd w N ρ l vs→vs.length=(l.map (·.1.size)).sum
 | [],_,h=>by simp only[FieldsRd] at h;subst h;rfl
 |(_,_)::_,_,⟨u,r,h1,h2,_,h4⟩=>by subst h1;simp[h2.length,FieldsRd.length h4]
theorem FieldsRd.set:∀ {l:List (Sh×E)} {vs:List Value} {i:Nat} {s:Sh} {e0 e:E} {u:List Value},FieldsRd w N ρ l vs→l[i]?=some (s,e0)→Rd w N s u (e.eval ρ)→Exact s e u→
  FieldsRd w N ρ (l.set i (s,e)) (vs.take (offL l i)++(u++vs.drop (offL l i+s.size)))∧offL l i+s.size≤vs.length
 | [],_,_,_,_,_,_,_,hi,_,_=>by simp at hi
 |(s0,e0')::l,vs,0,s,e0,e,u,⟨u0,r,h1,h2,h3,h4⟩,hi,hr,hx=>by
  simp at hi
  obtain ⟨rfl,rfl⟩:=hi
  subst h1
  refine ⟨⟨u,r,by simp[offL,←h2.length],hr,hx,h4⟩,by simp[offL,h2.length]⟩
 |(s0,e0')::l,vs,i+1,s,e0,e,u,⟨u0,r,h1,h2,h3,h4⟩,hi,hr,hx=>by
  subst h1
  obtain ⟨h5,h6⟩:=FieldsRd.set h4 (by simpa using hi) hr hx
  have ho:offL ((s0,e0')::l) (i+1)=u0.length+offL l i:=by simp[offL,h2.length]
  refine ⟨⟨u0,r.take (offL l i)++(u++r.drop (offL l i+s.size)),?_,h2,h3,h5⟩,by rw[ho];simp;omega⟩
  rw[ho,Nat.add_assoc,List.take_append,List.drop_append]
  simp
  rw[List.take_of_length_le (by omega),List.drop_of_length_le (by omega)]
  simp
/-- The model's way to lay a part over cells. -/
theorem fold_set (vs:List Value):∀(us:List Value) (off k:Nat),off+k+us.length≤vs.length→
  ((us.zipIdx k).foldl (fun (cs:Array Value) x=>cs.setIfInBounds (off+x.2) x.1) vs.toArray)=(vs.take (off+k)++(us++vs.drop (off+k+us.length))).toArray:=by
 intro us
 induction us generalizing vs with
 |nil=>intro off k _;simp
 |cons u us ih=>
  intro off k h
  simp only[List.zipIdx_cons,List.foldl_cons]
  have e:vs.toArray.setIfInBounds (off+k) u=(vs.set (off+k) u).toArray:=by simp
  rw[e,ih (vs.set (off+k) u) off (k+1) (by simp at h ⊢;omega)]
  have e2:=list_seg_step vs (off+k) u us (by simp at h;omega)
  congr 1
  simpa [Nat.add_assoc] using e2
/-- The struct's fields' places. -/
theorem structOk_at:∀ {fs:List Field} {s:Sh} {off:Nat} {l:List (Sh×E)} {i:Nat} {sh:Sh} {e:E},structOk P fs s off=true→s=ofL (l.map (·.1))→l[i]?=some (sh,e)→
  ∃f,fs[i]?=some f∧f.offset=off+offL l i∧fitsT P f.type sh=true
 | [],s,off,l,i,sh,e,h,hs,hi=>by
  cases l with
  |nil=>simp at hi
  |cons x l=>rw[hs] at h;simp[structOk,ofL] at h
 |f::fs,s,off,l,i,sh,e,h,hs,hi=>by
  cases l with
  |nil=>simp at hi
  |cons x l=>
   rw[hs] at h
   simp only[List.map_cons,ofL,structOk,fieldOk,Bool.and_eq_true,decide_eq_true_eq] at h
   obtain ⟨⟨h1,h2⟩,h3⟩:=h
   cases i with
   |zero=>
    simp at hi
    subst hi
    exact ⟨f,rfl,by simp[offL,h1],h2⟩
   |succ i=>
    obtain ⟨f',g1,g2,g3⟩:=structOk_at h3 rfl (by simpa using hi)
    exact ⟨f',by simpa using g1,by rw[g2];simp[offL,Nat.add_assoc],g3⟩
theorem run_places:∀ {fs:List Field} {s:Sh} {off:Nat},structOk P fs s off=true→
  (fs.mapM fun f=>(do pure (f.offset,←sizeOf f.type):Sem (Nat×Nat))).run P w= .ok (fs.map fun f=>(f.offset,P.cellsOf f.type)) w
 | [],_,_,_=>by simp
 |f::fs,s,off,h=>by
  cases s with
  |pair a b=>
   simp only[structOk,Bool.and_eq_true] at h
   have h1:=run_places h.2
   obtain ⟨i,d,hi,hs,_,_⟩:=fitsT_spec (by have:=h.1;simp only[fieldOk,Bool.and_eq_true] at this;exact this.2)
   simp only[List.mapM_cons,Sem.run_bind]
   have h2:(sizeOf f.type).run P w= .ok (P.cellsOf f.type) w:=by simp[sizeOf,typeInfo,hi,Program.cellsOf]
   simp[h2]
   simp at h1 ⊢
   first|exact h1|(rw[h1];rfl)|skip
  |_=>simp[structOk] at h
theorem fill_step (places:Nat→Option (Nat×Nat)) (vs:List Value) (i off size:Nat) (v:Value) (rest:List (Nat×Value)) (hp:places i=some (off,size)) (hs:v.cells.toList.length=size) (hle:off+size≤vs.length):
  Instr.fill places vs.toArray ((i,v)::rest)=Instr.fill places (vs.take off++(v.cells.toList++vs.drop (off+size))).toArray rest:=by
 have h1:v.cells.size=size:=by simpa using hs
 have h2:¬(vs.length<off+v.cells.size):=by omega
 have hf:=fold_set vs v.cells.toList off 0 (by rw[hs];omega)
 rw[Instr.fill,hp]
 simp only[h1,ne_eq,not_true_eq_false,decide_false,Bool.false_or,List.size_toArray]
 rw[if_neg (by simpa [h1] using h2)]
 congr 1
 rw[←Array.foldl_toList]
 simp only[Nat.add_zero,hs] at hf
 simpa using hf
theorem mk_cells {s:Sh} {us:List Value} (hl:us.length=s.size) (h1:∀u∈us,∀cs,u≠ .agg cs):(s.mk us).cells.toList=us:=by
 by_cases ha:s.isAgg=true
 ·simp[Sh.mk,ha,Value.cells]
 ·have ha:s.isAgg=false:=by simpa using ha
  have hs:s.size=1:=by cases s<;>simp_all[Sh.isAgg,Sh.size]
  rw[hs] at hl
  match us,hl with
  | [u],_=>
   simp only[Sh.mk,ha]
   have:=h1 u (by simp)
   cases u<;>simp_all[Value.cells]
/-- Cells that are read are cells. -/
theorem Rd_one:∀ {s:Sh} {us:List Value} {c:C},Rd w N s us c→∀u∈us,u.oneCell'=true∧∀cs,u≠ .agg cs
 | .int _,_,_,h=>by simp only[Rd] at h;subst h;simp[Value.oneCell']
 | .bool,_,_,h=>by simp only[Rd] at h;subst h;simp[Value.oneCell']
 | .str,_,_,h=>by simp only[Rd] at h;subst h;simp[Value.oneCell']
 | .sl _,_,_,⟨a,cap,h,_⟩=>by subst h;simp[Value.oneCell']
 | .ifc _ _,_,_,⟨_,h,_⟩=>by subst h;simp[Value.oneCell']
 | .nili,_,_,h| .fun_ _,_,_,h=>by simp only[Rd] at h;subst h;simp[Value.oneCell']
 | .mp _ _,_,_,⟨_,_,h,_⟩=>by subst h;simp[Value.oneCell']
 | .unit,_,_,h=>by simp only[Rd] at h;subst h;simp
 | .pair _ _,_,_,⟨_,va,vb,h1,h2,h3⟩=>by
  subst h1
  intro u hu
  rcases List.mem_append.1 hu with hu|hu
  ·exact Rd_one h2 u hu
  ·exact Rd_one h3 u hu
theorem buildX_sound (hrows:RowsOk w B N ρ bs hv) {pc:Pres} (hp:presTrue ρ pc) {ev:Ev} {a:Act} (hev:∀o t x,ev pc o t=some x→RdX w N ρ bs hv x (a.eval o)) {ft:Nat→TypeId} {fs:List Field} {s:Sh} (hok:structOk P fs s 0=true):
  ∀ {parts:List (Nat×Operand)} {l l':List (Sh×E)} {f:List Nat} {vs:List Value},buildX ev (rbOf bs) pc ft l parts=some (l',f)→s=ofL (l.map (·.1))→∀ {g:List Nat},FieldsRd w (NF N hv g) ρ l vs→
  (∀q∈f,LiveAt bs ρ q)∧s=ofL (l'.map (·.1))∧
  ∃vs',Instr.fill (fun i=>(fs.map fun f=>(f.offset,P.cellsOf f.type))[i]?) vs.toArray (parts.map fun x=>(x.1,a.eval x.2))=some vs'.toArray∧FieldsRd w (NF N hv (g++f)) ρ l' vs'
 | [],l,l',f,vs,h,hs,g,hr=>by
  simp[buildX] at h
  obtain ⟨rfl,rfl⟩:=h
  exact ⟨by simp,hs,vs,by simp[Instr.fill],by simpa using hr⟩
 |(i,o)::parts,l,l',f,vs,h,hs,g,hr=>by
  simp only[buildX] at h
  split at h
  ·rename_i sx e fx s' e' hd hl
   split at h
   ·rename_i hss
    subst hss
    cases hb:buildX ev (rbOf bs) pc ft (l.set i (sx,e)) parts with
    |none=>simp[hb] at h
    |some y=>
     obtain ⟨l2,f2⟩:=y
     simp[hb] at h
     obtain ⟨rfl,rfl⟩:=h
     obtain ⟨x,hx1,hx2⟩:=Option.bind_eq_some_iff.1 hd
     have hdat:=datOf_sound hrows hp hx2 (hev o _ x hx1)
     obtain ⟨us,d1,d2,d3⟩:=hdat
     have m1:∀b,NF N hv g b→b<w.heap.size→w.heap[b]?=w.heap[b]?∧NF N hv (g++fx) b:=fun b hb _=>⟨rfl,NF_left hb⟩
     have m2:∀b,NF N hv fx b→b<w.heap.size→w.heap[b]?=w.heap[b]?∧NF N hv (g++fx) b:=fun b hb _=>⟨rfl,NF_right hb⟩
     obtain ⟨k1,k2⟩:=(hr.mono (Nat.le_refl _) m1).set hl (d1.mono (Nat.le_refl _) m2) d3
     obtain ⟨fl,q1,q2,q3⟩:=structOk_at hok hs hl
     have hs2:s=ofL ((l.set i (sx,e)).map (·.1)):=by
      rw[hs]
      congr 1
      apply List.ext_getElem?
      intro j
      simp only[List.getElem?_map,List.getElem?_set]
      by_cases hij:i=j
      ·subst hij
       rw[if_pos rfl,hl]
       rw[if_pos (List.getElem?_eq_some_iff.1 hl).1]
       rfl
      ·rw[if_neg hij]
     obtain ⟨r1,r2,vs',r3,r4⟩:=buildX_sound hrows hp hev hok hb hs2 k1
     have hcells:(a.eval o).cells.toList=us:=by rw[d2];exact mk_cells d1.length fun u hu=>(Rd_one d1 u hu).2
     obtain ⟨ii,dd,hi1,hi2,_,_⟩:=fitsT_spec q3
     refine ⟨?_,r2,vs',?_,by rw[←List.append_assoc];exact r4⟩
     ·intro q hq
      rcases List.mem_append.1 hq with hq|hq
      ·exact datOf_rows hp hx2 q hq
      ·exact r1 q hq
     ·simp only[List.map_cons]
      rw[fill_step _ vs i (offL l i) sx.size (a.eval o) _ ?_ (by rw[hcells,d1.length]) k2]
      ·rw[hcells]
       exact r3
      ·simp only[List.getElem?_map,q1,Option.map_some]
       rw[q2,Nat.zero_add]
       simp[Program.cellsOf,hi1,hi2]
   ·simp at h
  ·simp at h
theorem zeroE_sound {t:TypeId} {s:Sh} {e:E} (h:zeroE P t s=some e):∃i v,P.info? t=some i∧i.zero=some v∧Rd w N s v.cells.toList (e.eval ρ)∧Exact s e v.cells.toList:=by
 unfold zeroE at h
 split at h
 ·rename_i v hz
  obtain ⟨i,hi,hz⟩:=Option.bind_eq_some_iff.1 hz
  split at h
  ·rename_i e' hu
   simp at h
   subst h
   obtain ⟨us,h1,h2,h3⟩:=unflatC_sound (w:=w) (N:=N) (ρ:=ρ) hu
   simp at h1
   rw[←h1] at h2 h3
   exact ⟨i,v,hi,hz,by simpa using h2,by simpa using h3⟩
  ·simp at h
 ·simp at h
theorem buildSX_sound (hrows:RowsOk w B N ρ bs hv) {pc:Pres} (hp:presTrue ρ pc) {ev:Ev} {a:Act} (hev:∀o t x,ev pc o t=some x→RdX w N ρ bs hv x (a.eval o)) {t:TypeId} {parts:List (Nat×Operand)} {out:Out}
  (h:buildSX P ev (rbOf bs) pc t parts=some out):
  ∃f,out.cmds=f.map .frz∧(∀q∈f,LiveAt bs ρ q)∧out.nv=0∧out.obs=[]∧
   ∃u,(Instr.build t (parts.toArray.map fun x=>(x.1,a.eval x.2))).run P w= .ok u w∧RdX w (NF N hv f) ρ bs hv out.x u:=by
 unfold buildSX at h
 split at h
 ·rename_i s fs hsh hu
  split at h
  ·rename_i hok
   simp only[Bool.and_eq_true] at hok
   split at h
   ·rename_i l hl
    split at h
    ·rename_i l2 f hb
     simp at h
     subst h
     obtain ⟨e,he,hfl⟩:=Option.bind_eq_some_iff.1 hl
     obtain ⟨i,v,hi,hz,hr,hx⟩:=zeroE_sound (w:=w) (N:=NF N hv []) (ρ:=ρ) he
     obtain ⟨h1,h2⟩:=fieldsOf_sound hfl hr hx
     obtain ⟨r1,r2,vs',r3,r4⟩:=buildX_sound hrows hp hev hok.1 hb h2 h1
     obtain ⟨g1,g2⟩:=r4.whole
     rw[←r2] at g1 g2
     have hag:s.isAgg=true:=by rw[h2];exact ofL_agg _
     refine ⟨f,rfl,r1,rfl,rfl,.agg vs'.toArray,?_,vs',g1,by simp[Sh.mk,hag],g2⟩
     obtain ⟨fl⟩:=fs
     have hpl:=run_places (P:=P) (w:=w) hok.1
     simp at hpl
     simp only[Array.toArray_toList] at r3
     simp[Instr.build,zeroValue,typeInfo,hi,hz,run_underlying hu]
     rw[hpl]
     simp only[List.getElem?_map] at r3
     simp[r3]
    ·simp at h
   ·simp at h
  ·simp at h
 ·simp at h
theorem splice_two (vs us xs:List Value) (k n m:Nat) (hl:us.length=n) (h:k+n+m≤vs.length):
  (vs.take k++(us++vs.drop (k+n))).take (k+n)++(xs++(vs.take k++(us++vs.drop (k+n))).drop (k+n+m))=vs.take k++((us++xs)++vs.drop (k+n+m)):=by
 have hX:(vs.take k++us).length=k+n:=by simp[hl];omega
 rw[←List.append_assoc (vs.take k) us,List.take_left' hX,List.drop_append,List.drop_of_length_le (by omega),hX]
 simp only[List.nil_append,List.drop_drop,List.append_assoc]
 congr 4
 omega
/-- The elements of a literal. -/
theorem elemsX_sound (hrows:RowsOk w B N ρ bs hv) {pc:Pres} (hp:presTrue ρ pc) {ev:Ev} {a:Act} (hev:∀o t x,ev pc o t=some x→RdX w N ρ bs hv x (a.eval o)) {t:TypeId} {s:Sh}:
  ∀ {parts:List (Nat×Operand)} {k:Nat} {e:E} {f:List Nat},elemsX ev (rbOf bs) pc t s k parts=some (e,f)→
  (∀q∈f,LiveAt bs ρ q)∧(e.eval ρ).toList.length=parts.length∧
  ∃xs,RdRow w (NF N hv f) s xs (e.eval ρ).toList∧
   ∀(vs:List Value),k*s.size+parts.length*s.size≤vs.length→
    Instr.fill (fun i=>some (i*s.size,s.size)) vs.toArray (parts.map fun x=>(x.1,a.eval x.2))=some (vs.take (k*s.size)++(xs++vs.drop (k*s.size+parts.length*s.size))).toArray
 | [],k,e,f,h=>by
  simp[elemsX] at h
  obtain ⟨rfl,rfl⟩:=h
  exact ⟨by simp,by simp[E.eval],[],by simp[E.eval,RdRow],fun vs _=>by simp[Instr.fill]⟩
 |(i,o)::parts,k,e,f,h=>by
  simp only[elemsX] at h
  split at h
  ·simp at h
  ·rename_i hik
   simp only[ne_eq,Decidable.not_not] at hik
   subst hik
   split at h
   ·rename_i s' ex fx es g hd hb
    split at h
    ·rename_i hss
     subst hss
     simp at h
     obtain ⟨rfl,rfl⟩:=h
     obtain ⟨x,hx1,hx2⟩:=Option.bind_eq_some_iff.1 hd
     obtain ⟨us,d1,d2,d3⟩:=datOf_sound hrows hp hx2 (hev o _ x hx1)
     obtain ⟨r1,r2,xs,r3,r4⟩:=elemsX_sound hrows hp hev hb
     have m1:∀b,NF N hv fx b→b<w.heap.size→w.heap[b]?=w.heap[b]?∧NF N hv (fx++g) b:=fun b hb _=>⟨rfl,NF_left hb⟩
     have m2:∀b,NF N hv g b→b<w.heap.size→w.heap[b]?=w.heap[b]?∧NF N hv (fx++g) b:=fun b hb _=>⟨rfl,NF_right hb⟩
     have hcells:(a.eval o).cells.toList=us:=by rw[d2];exact mk_cells d1.length fun u hu=>(Rd_one d1 u hu).2
     refine ⟨?_,by simp[E.eval,r2],us++xs,?_,fun vs hvs=>?_⟩
     ·intro q hq
      rcases List.mem_append.1 hq with hq|hq
      ·exact datOf_rows hp hx2 q hq
      ·exact r1 q hq
     ·simp only[E.eval,C.toList_ls]
      exact ⟨us,xs,rfl,d1.mono (Nat.le_refl _) m1,r3.mono (Nat.le_refl _) m2⟩
     ·simp only[List.length_cons,Nat.add_mul,Nat.one_mul] at hvs
      simp only[List.map_cons]
      have hl:us.length=s.size:=d1.length
      rw[fill_step _ vs i (i*s.size) s.size (a.eval o) _ rfl (by rw[hcells,hl]) (by omega),hcells]
      have hlen:(vs.take (i*s.size)++(us++vs.drop (i*s.size+s.size))).length=vs.length:=by simp[hl];omega
      rw[r4 _ (by rw[hlen,Nat.add_mul,Nat.one_mul];omega)]
      have e1:=splice_two vs us xs (i*s.size) s.size (parts.length*s.size) hl (by omega)
      simp only[List.length_cons,Nat.add_mul,Nat.one_mul] at e1 ⊢
      rw[e1,show i*s.size+(parts.length*s.size+s.size)=i*s.size+s.size+parts.length*s.size by omega]
    ·simp at h
   ·simp at h
/-- A literal of a slice: a new block. -/
theorem buildSlice_run {t et:TypeId} {s:Sh} {len:Nat} {parts:List (Nat×Value)} (ht:P.underlying t=some (.slice et)) (hf:fitsT P et s=true) (hz:((P.info? et).bind (·.zero)).isSome=true) (hlen:len*s.size≤2^24)
  {xs:List Value} (hl:xs.length=len*s.size) (hfill:∀vs:List Value,len*s.size≤vs.length→Instr.fill (fun i=>some (i*s.size,s.size)) vs.toArray parts=some (xs++vs.drop (len*s.size)).toArray):
  (Instr.buildSlice t len parts.toArray).run P w= .ok (.slice (some ⟨w.heap.size,0,none⟩) len len) (w.alloc (.cells xs.toArray et)):=by
 obtain ⟨z,hz⟩:=Option.isSome_iff_exists.1 hz
 obtain ⟨i,hi,hz⟩:=Option.bind_eq_some_iff.1 hz
 have hsz:(sizeOf et).run P w= .ok s.size w:=run_sizeOf hf
 have hn:¬(2^24<len*s.size):=by omega
 have hfl:=hfill ((List.range (len*s.size)).map fun j=>z.cells[j%z.cells.size]!) (by simp)
 have hd:((List.range (len*s.size)).map fun j=>z.cells[j%z.cells.size]!).drop (len*s.size)=[]:=List.drop_of_length_le (by simp)
 rw[hd,List.append_nil] at hfl
 by_cases h0:len*s.size=0
 ·have hx:xs=[]:=List.eq_nil_of_length_eq_zero (by omega)
  subst hx
  simp[h0] at hfl
  simp[Instr.buildSlice,run_underlying ht,hsz,h0,newRow,hfl,Array.range_zero']
 ·have hzv:(zeroValue et).run P w= .ok z w:=by simp[zeroValue,typeInfo,hi,hz]
  have harr:(Array.range (len*s.size)).map (fun j=>z.cells[j%z.cells.size]!)=((List.range (len*s.size)).map fun j=>z.cells[j%z.cells.size]!).toArray:=by
   apply Array.ext'
   simp[Array.toList_range]
  simp[Instr.buildSlice,run_underlying ht,hsz,hn,h0,hzv,newRow]
  rw[harr,hfl]
  simp
theorem elemsX_exact {ev:Ev} {rb:Rb} {pc:Pres} {t:TypeId} {s:Sh} {k:Nat} {parts:List (Nat×Operand)} {e:E} {f:List Nat} (h:elemsX ev rb pc t s k parts=some (e,f)) (vs:List Value):Exact (.sl s) e vs:=by
 cases parts with
 |nil=>simp[elemsX] at h;obtain ⟨rfl,_⟩:=h;simp[Exact]
 |cons x l=>
  simp only[elemsX] at h
  split at h
  ·simp at h
  ·split at h
   ·split at h
    ·simp at h;obtain ⟨rfl,_⟩:=h;simp[Exact]
    ·simp at h
   ·simp at h
theorem buildSlX_sound (hrows:RowsOk w B N ρ bs hv) {pc:Pres} (hp:presTrue ρ pc) {ev:Ev} {a:Act} (hev:∀o t x,ev pc o t=some x→RdX w N ρ bs hv x (a.eval o)) {t:TypeId} {len:Nat} {parts:List (Nat×Operand)} {out:Out}
  (h:buildSlX P ev (rbOf bs) pc t len parts=some out) (hN:∀b,w.heap.size≤b→N b):
  ∃f,out.cmds=f.map .frz∧(∀q∈f,LiveAt bs ρ q)∧out.nv=0∧out.obs=[]∧
   ∃u w',(Instr.buildSlice t len (parts.toArray.map fun x=>(x.1,a.eval x.2))).run P w= .ok u w'∧Below w.heap.size w w'∧RdX w' (NF N hv f) ρ bs hv out.x u:=by
 unfold buildSlX at h
 split at h
 ·simp at h
 ·rename_i et ht
  split at h
  ·simp at h
  ·rename_i s hs
   split at h
   ·rename_i hok
    simp only[Bool.and_eq_true,decide_eq_true_eq] at hok
    obtain ⟨⟨⟨⟨hf,hs0⟩,hpl⟩,hlen⟩,hz⟩:=hok
    have hs0:0<s.size:=by simp at hs0;omega
    split at h
    ·rename_i e f hb
     simp at h
     subst h
     obtain ⟨r1,r2,xs,r3,r4⟩:=elemsX_sound hrows hp hev hb
     subst hpl
     have hl:xs.length=parts.length*s.size:=by rw[r3.length,r2]
     have hrun:=buildSlice_run (P:=P) (w:=w) (parts:=parts.map fun x=>(x.1,a.eval x.2)) (elemT_spec ht) hf hz hlen hl fun vs hvs=>by
      have:=r4 vs (by omega)
      simpa using this
     have hbel:Below w.heap.size w (w.alloc (.cells xs.toArray et)):=(Below.refl _ _).alloc (Nat.le_refl _) _
     refine ⟨f,rfl,r1,rfl,rfl,_,_,by simpa using hrun,hbel,[.slice (some ⟨w.heap.size,0,none⟩) parts.length parts.length],⟨_,_,by rw[r2],by omega,?_,fun _=>⟨w.heap.size,0,rfl,.inl (hN _ (Nat.le_refl _)),by simp,?_⟩⟩,by simp[Sh.mk,Sh.isAgg],?_⟩
     ·simp only[maxLen]
      have:parts.length≤parts.length*s.size:=Nat.le_mul_of_pos_right _ hs0
      omega
     ·refine RowAt.of_row (r3.mono (by simp) fun b hb hlt=>⟨hbel.block b hlt,hb⟩) fun j u hu=>?_
      rw[World.cell?_alloc_at _ _ _ _ rfl]
      simpa using hu
     ·exact elemsX_exact hb _
    ·simp at h
   ·simp at h
theorem flat_sound:∀ {s:Sh} {e:E} {vs:List Value},Rd w N s vs (e.eval ρ)→Exact s e vs→RdXs w N ρ bs hv (flat s e) vs
 | .int k,e,vs,h,hx=>by
  simp only[Rd] at h
  subst h
  exact ⟨_,[],rfl,by rw[RdX_int],rfl⟩
 | .bool,e,vs,h,hx=>by
  simp only[Rd] at h
  subst h
  exact ⟨_,[],rfl,by rw[RdX_bool],rfl⟩
 | .str,e,vs,h,hx=>by
  simp only[Rd] at h
  subst h
  exact ⟨_,[],rfl,by rw[RdX_str],rfl⟩
 | .sl s,e,vs,h,hx=>by
  obtain ⟨a,cap,h1,h2⟩:=id h
  subst h1
  exact ⟨_,[],rfl,⟨_,h,by simp[Sh.mk,Sh.isAgg],hx⟩,rfl⟩
 | .ifc _ _,e,vs,h,hx=>by
  obtain ⟨a,h1,h2⟩:=id h
  subst h1
  exact ⟨_,[],rfl,⟨_,h,by simp[Sh.mk,Sh.isAgg],hx⟩,rfl⟩
 | .nili,e,vs,h,hx=>by
  have h1:=h
  simp only[Rd] at h1
  subst h1
  exact ⟨_,[],rfl,⟨_,h,by simp[Sh.mk,Sh.isAgg],hx⟩,rfl⟩
 | .fun_ _,e,vs,h,hx=>by
  have h1:=h
  simp only[Rd] at h1
  subst h1
  exact ⟨_,[],rfl,⟨_,h,by simp[Sh.mk,Sh.isAgg],hx⟩,rfl⟩
 | .mp _ _,e,vs,h,hx=>by
  obtain ⟨a,l,h1,h2⟩:=id h
  subst h1
  exact ⟨_,[],rfl,⟨_,h,by simp[Sh.mk,Sh.isAgg],hx⟩,rfl⟩
 | .unit,e,vs,h,hx=>h
 | .pair a b,e,vs,h,hx=>by
  obtain ⟨h0,va,vb,rfl,h1,h2⟩:=h
  obtain ⟨x1,x2⟩:=Exact_hd hx h1.length
  have g1:=flat_sound (e:=mkHd e) (by rw[eval_mkHd];exact h1) x1
  have g2:=flat_sound (e:=mkTl e) (h2.of_list h0 (eval_mkTl ρ e).symm) x2
  simp only[flat]
  exact RdXs_append g1 g2
where
 RdXs_append:∀ {l m:List SX} {us vs:List Value},RdXs w N ρ bs hv l us→RdXs w N ρ bs hv m vs→RdXs w N ρ bs hv (l++m) (us++vs)
  | [],_,_,_,h,h'=>by simp only[RdXs] at h;subst h;simpa using h'
  |_::_,_,_,_,⟨v,r,h1,h2,h3⟩,h'=>⟨v,r++_,by rw[h1];rfl,h2,RdXs_append h3 h'⟩
end
/-- A step that makes a new block. -/
theorem new_box {P:Program} {N0:Nat→Prop} {w0:Wb} {ρ:List C} {S:SS} {hv:Nat→Value} {a:Act} {w:World} (h:RelH P N0 w0 ρ S hv a w) {d:Nat} (hd:isNew S.rb d=true) {s:Sh} {cs:List SX} {vs:List Value} {t:TypeId} (pc:Pres)
  (hcs:RdXs w (NN N0 w0.own ρ S.blks hv) ρ S.blks hv cs vs):
  ∃hv',RelH P N0 w0 ρ {S with blks:=S.blks.set d ⟨.box cs,false,pc⟩} hv' a (w.alloc (.cells vs.toArray t))∧
   RdX (w.alloc (.cells vs.toArray t)) (NN N0 w0.own ρ (S.blks.set d ⟨.box cs,false,pc⟩) hv') ρ (S.blks.set d ⟨.box cs,false,pc⟩) hv' (.ref d (.int 0) 0 s none) (.pointer (some ⟨w.heap.size,0,none⟩)):=by
 have hdn:=isNew_blk hd
 have hbel:Below w.heap.size w (w.alloc (.cells vs.toArray t)):=(Below.refl _ _).alloc (Nat.le_refl _) _
 have hdl:d<S.blks.length:=by obtain ⟨k,hk,_⟩:=hdn;exact (List.getElem?_eq_some_iff.1 hk).1
 refine ⟨upd hv d (.pointer (some ⟨w.heap.size,0,none⟩)),?_,⟨⟨.box cs,false,pc⟩,by simp[hdl],by simp⟩,fun es e p hin _=>?_,fun cs' p hin _=>⟨w.heap.size,by simp[upd,blkNo],rfl⟩⟩
 ·refine (h.new hdn (.box cs) pc (.pointer (some ⟨w.heap.size,0,none⟩)) hbel (fun g hg=>by simp[blkNo] at hg;omega) fun _=>?_).1
  refine ⟨w.heap.size,t,vs.toArray,by simp[upd],.inl h.below.size,heap_alloc_new w _,?_⟩
  have hk:∀b,NN N0 w0.own ρ S.blks hv b→b<w.heap.size→(w.alloc (.cells vs.toArray t)).heap[b]?=w.heap[b]?∧NN N0 w0.own ρ (S.blks.set d ⟨.box cs,false,pc⟩) (upd hv d (.pointer (some ⟨w.heap.size,0,none⟩))) b:=by
   intro b hb hlt
   refine ⟨hbel.block b hlt,hb.1,fun r k hr hl hf hp=>?_⟩
   by_cases hrd:r=d
   ·subst hrd
    simp only[upd,if_true,blkNo,ne_eq,Option.some.injEq]
    omega
   ·rw[List.getElem?_set_ne (fun e=>hrd e.symm)] at hr
    simp only[upd,if_neg hrd]
    exact hb.2 r k hr hl hf hp
  simpa using hcs.le (by simp) hk (new_le ρ hdn _ hv _)
 ·simp[rowIn,hdl] at hin
/-- A new row of the call's own. -/
theorem new_row {P:Program} {N0:Nat→Prop} {w0:Wb} {ρ:List C} {S:SS} {hv:Nat→Value} {a:Act} {w:World} (h:RelH P N0 w0 ρ S hv a w) {d:Nat} (hd:isNew S.rb d=true) {s:Sh} {e:E} {xs rest:List Value} {t:TypeId} (pc:Pres) {cap:Nat}
  (hrow:RdRow w (NN N0 w0.own ρ S.blks hv) s xs (e.eval ρ).toList) (hsz:0<s.size) (hcap:(xs++rest).length=cap*s.size) (hcm:cap≤maxLen) (n:E) (hn:(n.eval ρ).toInt=((e.eval ρ).toList.length:Int)):
  ∃hv',RelH P N0 w0 ρ {S with blks:=S.blks.set d ⟨.row s e,false,pc⟩} hv' a (w.alloc (.cells (xs++rest).toArray t))∧
   RdX (w.alloc (.cells (xs++rest).toArray t)) (NN N0 w0.own ρ (S.blks.set d ⟨.row s e,false,pc⟩) hv') ρ (S.blks.set d ⟨.row s e,false,pc⟩) hv' (.full d n) (.slice (some ⟨w.heap.size,0,none⟩) (e.eval ρ).toList.length cap):=by
 have hdn:=isNew_blk hd
 have hbel:Below w.heap.size w (w.alloc (.cells (xs++rest).toArray t)):=(Below.refl _ _).alloc (Nat.le_refl _) _
 have hdl:d<S.blks.length:=by obtain ⟨k,hk,_⟩:=hdn;exact (List.getElem?_eq_some_iff.1 hk).1
 have hl:=hrow.length
 refine ⟨upd hv d (.slice (some ⟨w.heap.size,0,none⟩) (e.eval ρ).toList.length cap),?_,⟨⟨.row s e,false,pc⟩,by simp[hdl],by simp⟩,fun s' e' p hin _=>?_⟩
 ·refine (h.new hdn (.row s e) pc (.slice (some ⟨w.heap.size,0,none⟩) (e.eval ρ).toList.length cap) hbel (fun g hg=>by simp[blkNo] at hg;omega) fun _=>?_).1
  have hk:∀b,NN N0 w0.own ρ S.blks hv b→b<w.heap.size→(w.alloc (.cells (xs++rest).toArray t)).heap[b]?=w.heap[b]?∧NN N0 w0.own ρ (S.blks.set d ⟨.row s e,false,pc⟩) (upd hv d (.slice (some ⟨w.heap.size,0,none⟩) (e.eval ρ).toList.length cap)) b:=by
   intro b hb hlt
   refine ⟨hbel.block b hlt,hb.1,fun r k hr hl hf hp=>?_⟩
   by_cases hrd:r=d
   ·subst hrd
    simp only[upd,if_true,blkNo,ne_eq,Option.some.injEq]
    omega
   ·rw[List.getElem?_set_ne (fun e=>hrd e.symm)] at hr
    simp only[upd,if_neg hrd]
    exact hb.2 r k hr hl hf hp
  refine ⟨t,xs,⟨hl,.inr ⟨w.heap.size,cap,(xs++rest).toArray,by simp[upd],.inl h.below.size,heap_alloc_new w _,?_,hcm,by simpa using hcap,by rw[←hl];simp⟩⟩,hrow.mono (by simp) hk,hsz⟩
  have h1:(e.eval ρ).toList.length*s.size≤cap*s.size:=by rw[←hl,←hcap];simp
  exact Nat.le_of_mul_le_mul_right h1 hsz
 ·simp[rowIn,hdl] at hin
  obtain ⟨rfl,rfl,rfl⟩:=hin
  exact ⟨by simp[upd],hn⟩
end Go.Vc
