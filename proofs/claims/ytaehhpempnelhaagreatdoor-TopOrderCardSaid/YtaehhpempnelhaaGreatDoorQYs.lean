/-
  The walks of the reader's id and element (say).
-/
import Derived.Test.YtaehhpempnelhaaGreatDoorQYr
import Derived.Test.YtaehhpempnelhaaGreatDoorQTt

set_option maxRecDepth 100000
namespace Go.Vc
open Go Go.Proofs Go.RowKit Go.Plain
set_option maxHeartbeats 4000000 in
theorem id_walk (W:World) (lo rb:Nat) (hlo:lo≤W.heap.size) (sv:Value) (wb:Bool) (ws:List (List UInt8)) (s:List UInt8) (hs:ws.headD []=s) (hlen:s.length≤1000000) (R:Nat×Bool) (hRR:numR 255 s=R) (h:RdrAt W rb sv wb) (hw:WordsAt W lo rb sv ws):
  Calls Tryz.prog 97 #[.pointer (some ⟨rb,0,none⟩)] W fun e W'=>∃sv',e= .returned (.int .i64 (R.1:Nat))∧RdrAt W' rb sv' ((wb||ws.isEmpty)||R.2)∧WordsAt W' lo rb sv' ws.tail∧W.grownBy W' (some rb):=by
 have hle:R.1≤255:=by
  rw[←hRR]
  exact numGo_le 255 _ 0 (by omega)
 obtain ⟨R1,R2⟩:=R
 simp only at hle
 go_enter Tryz.func97,Tryz.ntmps97
 go_wp2_with (go_at_call 98;refine (number_walk W lo rb hlo sv wb ws 255 (by omega) s hs hlen (R1,R2) hRR h hw).mono ?_)
 first|(rintro e W1 rfl sv1 h1 w1 g1)|(rintro e W1 sv1 rfl h1 w1 g1)|(rintro e W1 ⟨sv1,rfl,h1,w1,g1⟩)
 go_wp2
 go_ret
 first|exact ⟨rfl,_,h1,w1,g1⟩|exact ⟨_,rfl,h1,w1,g1⟩
theorem unquote_call (s:List UInt8) (hs:s.length≤1000000) (w:World) (hkw:KW Tryz.prog w):
  Calls Tryz.prog 124 #[.string ⟨s.toArray⟩] w fun e w'=>e= .returned (.tuple #[.string ⟨((unqL s).getD []).toArray⟩,.int .i64 (unE s)])∧Below w.heap.size w w':=by
 have h:=((pc_text_Unquote quoteOk loosenOk s hs).to0 (by decide)).2 w (fun _=>True) [.string ⟨s.toArray⟩] hkw ⟨_,_,rfl,⟨[.string ⟨s.toArray⟩],rfl,rfl⟩,rfl⟩
 refine h.mono fun e w' ⟨v,he,⟨vs,⟨v1,r1,hv1,⟨us,hu,hv2⟩,v3,r3,hv3,⟨us2,hu2,hv4⟩,hr⟩,hv⟩,hb⟩=>⟨?_,hb⟩
 simp only[RdVs] at hr
 subst hr
 simp only[Rd] at hu hu2
 subst hu hu2
 subst hv1 hv3
 simp[Sh.mk,Sh.isAgg] at hv2 hv4
 subst hv2 hv4
 simp at hv
 rw[he,hv]
theorem alloc_at (w:World) (o:Obj):(w.alloc o).heap[w.heap.size]?=some o:=by unfold World.alloc;exact Array.getElem?_push_size
theorem conv_bytes (s:List UInt8) (hs:s.length≤1000000) (W:World):∃a cap W',(convert 9 22 (.string ⟨s.toArray⟩)).run Tryz.prog W= .ok (.slice a s.length cap) W'∧Below W.heap.size W W'∧Rd W' (fun b=>W.heap.size≤b) (.sl (.int .u8)) [.slice a s.length cap] (.ls (ofBytes s)):=by
 obtain ⟨v,W',h1,h2,h3⟩:=run_ofStr (P:=Tryz.prog) (w:=W) (N:=fun b=>W.heap.size≤b) (et:=5) s (by omega) (fun _ h=>h)
 obtain ⟨a,cap,e1,_⟩:=id h3
 simp only[List.cons.injEq,and_true,C.toList_ls] at e1
 rw[show (ofBytes s).length=s.length by simp[ofBytes]] at e1
 subst e1
 refine ⟨a,cap,W',?_,h2,h3⟩
 simp[convert,run_underlying Tryz.underlying9,run_underlying Tryz.underlying22,run_underlying Tryz.underlying5,h1]
theorem qs_ge (l:List UInt8):l.length≤(qs l).length:=by
 have key:l.length≤((chunks l).flatMap qc).length:=by
  induction l using lenInd with
  |nil=>exact Nat.zero_le _
  |step l hne ih=>
   rw[chunks_ne hne,List.flatMap_cons,List.length_append]
   have h1:rwid l≤(qc (l.take (rwid l))).length:=by
    have h2:=rwid_le hne
    rcases qc_cases hne with ⟨_,r2,_,r4⟩|⟨_,r2,r4⟩|⟨_,_,r4⟩
    ·rw[r4,r2];simp
    ·rw[r4,r2];simp
    ·rw[r4,List.length_take];omega
   rw[List.length_drop] at ih
   omega
 unfold qs
 simp only[List.length_cons,List.length_append,List.length_nil]
 omega
/-- What the last stores of 'element' leave. -/
theorem element_end {W Wc:World} {lo rb eb R1 cap:Nat} {a:Option Addr} {n:Nat} {sv:Value} {b:Bool} {ws:List (List UInt8)} {c:C} {z0 z1:Value}
  (hE:Wc.heap[eb]?=some (.cells #[.int .i64 (R1:Nat),z0] 103 (0,0))) (hC:Wc.heap[W.heap.size]?=some (.cells #[.int .i64 0,z1] 103 (0,0))) (h1:W.heap.size<eb) {M:Nat} (h2:eb<M) (h3:M≤Wc.heap.size) (hne1:eb≠rb) (hne2:W.heap.size≠rb) (hrlt:rb<W.heap.size) (hlo:lo≤W.heap.size)
  (rd:Rd Wc (fun k=>M≤k) (.sl (.int .u8)) [.slice a n cap] c) (_:True:=trivial) (hR:RdrAt Wc rb sv b) (hW:WordsAt Wc lo rb sv ws) (hG:W.grownBy Wc (some rb)) {Q:Prop}
  (k:∀W6,((Wc.setCell ⟨eb,1,none⟩ (.slice a n cap)).setCell ⟨W.heap.size,0,none⟩ (.int .i64 (R1:Nat))).setCell ⟨W.heap.size,1,none⟩ (.slice a n cap)=W6→
   Rd W6 (fun b=>W.heap.size≤b) (.sl (.int .u8)) [.slice a n cap] c→RdrAt W6 rb sv b→WordsAt W6 lo rb sv ws→W.grownBy W6 (some rb)→W6.heap[W.heap.size]?=some (.cells #[.int .i64 (R1:Nat),.slice a n cap] 103 (0,0))→Q):Q:=by
 have hlt:=(Array.getElem?_eq_some_iff.1 hE).1
 have keep:∀j,j≠eb→j≠W.heap.size→(((Wc.setCell ⟨eb,1,none⟩ (.slice a n cap)).setCell ⟨W.heap.size,0,none⟩ (.int .i64 (R1:Nat))).setCell ⟨W.heap.size,1,none⟩ (.slice a n cap)).heap[j]?=Wc.heap[j]?:=by
  intro j h4 h5
  rw[Below.heap_setCell _ _ _ _ (by simpa using h5),Below.heap_setCell _ _ _ _ (by simpa using h5),Below.heap_setCell _ _ _ _ (by simpa using h4)]
 refine k _ rfl ?_ ?_ ?_ ?_ ?_
 ·refine rd.mono (by simp[World.setCell]) fun b hb _=>⟨keep b (by omega) (by omega),by omega⟩
 ·exact hR.of_heap (keep rb (fun e=>hne1 e.symm) (fun e=>hne2 e.symm))
 ·exact hW.grown2 fun j hj hjr=>keep j (by omega) (by omega)
 ·exact ⟨hG.os,hG.tape,hG.output,by simpa [World.setCell] using hG.size,fun j hj hn=>by rw[keep j (by omega) (by omega)];exact hG.block j hj hn⟩
 ·have e1:(Wc.setCell ⟨eb,1,none⟩ (.slice a n cap)).heap[W.heap.size]?=some (.cells #[.int .i64 0,z1] 103 (0,0)):=by rw[Below.heap_setCell _ _ _ _ (by simp;omega)];exact hC
  simp[World.setCell,Array.getElem?_modify] at e1 ⊢
  simp[e1]
set_option maxHeartbeats 4000000 in
theorem element_walk (W:World) (hkw:KW Tryz.prog W) (lo rb:Nat) (hlo:lo≤W.heap.size) (sv:Value) (wb:Bool) (ws:List (List UInt8)) (s0 s1:List UInt8) (hs0:ws.headD []=s0) (hs1:ws.tail.headD []=s1) (hlen0:s0.length≤1000000) (hlen1:s1.length≤1000000) (hkr:∀g,KWb Tryz.prog g→g≠rb)
  (R:Nat×Bool) (hRR:numR 255 s0=R) (h:RdrAt W rb sv wb) (hw:WordsAt W lo rb sv ws):
  Calls Tryz.prog 99 #[.pointer (some ⟨rb,0,none⟩)] W fun e W'=>∃sv' dv,e= .returned (.agg #[.int .i64 (R.1:Nat),dv])∧Rd W' (fun b=>W.heap.size≤b) (.sl (.int .u8)) [dv] (.ls (ofBytes ((unqL s1).getD [])))∧
   RdrAt W' rb sv' (((wb||ws.isEmpty)||R.2)||ws.tail.isEmpty|| !(unqL s1).isSome)∧WordsAt W' lo rb sv' ws.tail.tail∧W.grownBy W' (some rb):=by
 obtain ⟨R1,R2⟩:=R
 have hrlt:=h.lt
 have hA:=h.of_heap (W':=(W.alloc (.cells #[.int .i64 0,.slice none 0 0] 103))) (Lib.alloc_old W _ rb hrlt)
 go_enter Tryz.func99,Tryz.ntmps99
 go_wp2_with (go_at_call 97;refine (id_walk _ lo rb (by simp;omega) sv wb ws s0 hs0 hlen0 (R1,R2) hRR hA (hw.grown2 fun k hk _=>Lib.alloc_old W _ k (by omega))).mono ?_)
 first|(rintro e W1 rfl sv1 h1 w1 g1)|(rintro e W1 sv1 rfl h1 w1 g1)|(rintro e W1 ⟨sv1,rfl,h1,w1,g1⟩)
 have hs1':=hs1
 have hsz1:W.heap.size+1≤W1.heap.size:=by have:=g1.size;simpa using this
 have hRA:RdrAt (W1.alloc (.cells #[.int .i64 (R1:Nat),.slice none 0 0] 103)) rb sv1 (wb||ws.isEmpty||R2):=h1.of_heap (Lib.alloc_old W1 _ rb h1.lt)
 have hWA:WordsAt (W1.alloc (.cells #[.int .i64 (R1:Nat),.slice none 0 0] 103)) lo rb sv1 ws.tail:=w1.grown2 fun k hk _=>Lib.alloc_old W1 _ k (by omega)
 have hEA:(W1.alloc (.cells #[.int .i64 (R1:Nat),.slice none 0 0] 103)).heap[W1.heap.size]?=some (.cells #[.int .i64 (R1:Nat),.slice none 0 0] 103 (0,0)):=alloc_at W1 _
 have hCA:(W1.alloc (.cells #[.int .i64 (R1:Nat),.slice none 0 0] 103)).heap[W.heap.size]?=some (.cells #[.int .i64 0,.slice none 0 0] 103 (0,0)):=by
  rw[Lib.alloc_old W1 _ _ (by omega),g1.block _ (by simp) (by simp;omega)]
  exact alloc_at W _
 have hGA:W.grownBy (W1.alloc (.cells #[.int .i64 (R1:Nat),.slice none 0 0] 103)) (some rb):=grown_alloc2 (grown_trans (World.grownBy_alloc W _ _) g1) _
 have hszA:(W1.alloc (.cells #[.int .i64 (R1:Nat),.slice none 0 0] 103)).heap.size=W1.heap.size+1:=by simp
 have hr1:=h1.lt
 go_wp2_with (go_at_call 96;refine (next_walk _ lo rb (by rw[hszA];omega) sv1 _ ws.tail hRA hWA).mono ?_)
 first|(rintro e W2 rfl sv2 h2 w2 g2)|(rintro e W2 sv2 rfl h2 w2 g2)|(rintro e W2 ⟨sv2,rfl,h2,w2,g2⟩)
 rw[hs1] at*
 have hE2:W2.heap[W1.heap.size]?=some (.cells #[.int .i64 (R1:Nat),.slice none 0 0] 103 (0,0)):=(g2.block _ (by omega) (by simp;omega)).trans hEA
 have hC2:W2.heap[W.heap.size]?=some (.cells #[.int .i64 0,.slice none 0 0] 103 (0,0)):=(g2.block _ (by omega) (by simp;omega)).trans hCA
 have hG2:=grown_trans hGA g2
 have hk2:KW Tryz.prog W2:=hkw.keep fun g hg=>hG2.block g (hkw.lt hg) (by simp;exact hkr g hg)
 have hsz2:=g2.size
 go_wp2_with (go_at_call 124;refine (unquote_call s1 hlen1 _ hk2).mono ?_)
 first|(rintro e W3 rfl b3)|(rintro e W3 ⟨rfl,b3⟩)
 have hR3:=h2.of_heap (b3.block rb h2.lt)
 have hW3:=w2.grown2 (W':=W3) fun k hk _=>b3.block k (by omega)
 have hE3:W3.heap[W1.heap.size]?=some (.cells #[.int .i64 (R1:Nat),.slice none 0 0] 103 (0,0)):=(b3.block _ (by omega)).trans hE2
 have hC3:W3.heap[W.heap.size]?=some (.cells #[.int .i64 0,.slice none 0 0] 103 (0,0)):=(b3.block _ (by omega)).trans hC2
 have hG3:W.grownBy W3 (some rb):=grown_trans hG2 ⟨b3.os,b3.tape,b3.output,b3.size,fun k hk _=>b3.block k hk⟩
 have hsz3:=b3.size
 have e0:W3.cell? ⟨W1.heap.size,0,none⟩=some (.int .i64 (R1:Nat)):=by rw[Lib.cell_of_heap hE3];rfl
 have e1:W3.cell? ⟨W1.heap.size,1,none⟩=some (.slice none 0 0):=by rw[Lib.cell_of_heap hE3];rfl
 have fe:=fun j=>Lib.frozen_of_heap hE3 j
 have fc:=fun j=>Lib.frozen_of_heap hC3 j
 have fr:=hR3.frozen
 have c1:=hR3.cell1
 clear hE2 hC2 hEA hCA hRA hWA hA h1 w1 h2 w2
 cases hu:unqL s1 with
 |none=>
  have hue:unE s1=6:=by unfold unE;rw[hu];rfl
  simp only[hue,hu,Option.getD_none]
  have hR4:=hR3.set1 true
  have g4:=grown_set W3 rb 1 (.bool true)
  have hne1:W1.heap.size≠rb:=by omega
  have hne2:W.heap.size≠rb:=by omega
  have hE4:=(g4.block W1.heap.size (by omega) (by simp;omega)).trans hE3
  have hC4:=(g4.block W.heap.size (by omega) (by simp;omega)).trans hC3
  have hW4:=hW3.grown2 (W':=W3.setCell ⟨rb,1,none⟩ (.bool true)) fun k hk hkr=>g4.block k (by omega) (by simp;omega)
  have hG4:=grown_trans hG3 g4
  have hsz4:=g4.size
  obtain ⟨a,cap,W5,hcv,b5,rd5⟩:=conv_bytes [] (by simp) (W3.setCell ⟨rb,1,none⟩ (.bool true))
  simp only[List.length_nil] at hcv rd5
  have hsz5:=b5.size
  have hE5:=(b5.block W1.heap.size (by omega)).trans hE4
  have hC5:=(b5.block W.heap.size (by omega)).trans hC4
  have hR5:=hR4.of_heap (b5.block rb (by omega))
  have hW5:=hW4.grown2 (W':=W5) fun k hk _=>b5.block k (by omega)
  have hG5:W.grownBy W5 (some rb):=grown_trans hG4 ⟨b5.os,b5.tape,b5.output,b5.size,fun k hk _=>b5.block k hk⟩
  have fe5:=fun j=>Lib.frozen_of_heap hE5 j
  have fc5:=fun j=>Lib.frozen_of_heap hC5 j
  have e50:W5.cell? ⟨W1.heap.size,0,none⟩=some (.int .i64 (R1:Nat)):=by rw[Lib.cell_of_heap hE5];rfl
  have e51:W5.cell? ⟨W1.heap.size,1,none⟩=some (.slice none 0 0):=by rw[Lib.cell_of_heap hE5];rfl
  have c50:W5.cell? ⟨W.heap.size,0,none⟩=some (.int .i64 0):=by rw[Lib.cell_of_heap hC5];rfl
  have c51:W5.cell? ⟨W.heap.size,1,none⟩=some (.slice none 0 0):=by rw[Lib.cell_of_heap hC5];rfl
  go_wp2
  refine element_end (rb:=rb) (lo:=lo) (W:=W) (Wc:=W5) (eb:=W1.heap.size) (R1:=R1) hE5 hC5 (by omega) (by omega) (by omega) hne1 hne2 hrlt hlo rd5 trivial hR5 hW5 hG5 ?_
  intro W6 hW6 r1 r2 r3 r4 r5
  rw[hW6]
  refine bodyPost_ret (results_cell_row (cs:= #[.int .i64 (R1:Nat),.slice a 0 cap]) rfl _ W6 W.heap.size 103 (0,0) _ rfl r5 Tryz.underlying103 rfl (by kernel_rfl)) rfl ?_
  refine ⟨_,_,rfl,?_,?_,r3,r4⟩
  ·rw[hu];exact r1
  ·rw[hu];simpa using r2
 |some d=>
  have hue:unE s1=0:=by unfold unE;rw[hu];rfl
  have hdl:d.length≤1000000:=by
   have h2:=unqL_some.1 hu
   have h3:d.length≤(qs d).length:=qs_ge d
   rw[h2] at h3
   omega
  simp only[hue,hu,Option.getD_some]
  obtain ⟨a,cap,W5,hcv,b5,rd5⟩:=conv_bytes d hdl W3
  have hne1:W1.heap.size≠rb:=by omega
  have hne2:W.heap.size≠rb:=by omega
  have hsz5:=b5.size
  have hE5:=(b5.block W1.heap.size (by omega)).trans hE3
  have hC5:=(b5.block W.heap.size (by omega)).trans hC3
  have hR5:=hR3.of_heap (b5.block rb (by omega))
  have hW5:=hW3.grown2 (W':=W5) fun k hk _=>b5.block k (by omega)
  have hG5:W.grownBy W5 (some rb):=grown_trans hG3 ⟨b5.os,b5.tape,b5.output,b5.size,fun k hk _=>b5.block k hk⟩
  have fe5:=fun j=>Lib.frozen_of_heap hE5 j
  have fc5:=fun j=>Lib.frozen_of_heap hC5 j
  have e50:W5.cell? ⟨W1.heap.size,0,none⟩=some (.int .i64 (R1:Nat)):=by rw[Lib.cell_of_heap hE5];rfl
  have e51:W5.cell? ⟨W1.heap.size,1,none⟩=some (.slice none 0 0):=by rw[Lib.cell_of_heap hE5];rfl
  have c50:W5.cell? ⟨W.heap.size,0,none⟩=some (.int .i64 0):=by rw[Lib.cell_of_heap hC5];rfl
  have c51:W5.cell? ⟨W.heap.size,1,none⟩=some (.slice none 0 0):=by rw[Lib.cell_of_heap hC5];rfl
  go_wp2
  refine element_end (rb:=rb) (lo:=lo) (W:=W) (Wc:=W5) (eb:=W1.heap.size) (R1:=R1) hE5 hC5 (by omega) (by omega) (by omega) hne1 hne2 hrlt hlo rd5 trivial hR5 hW5 hG5 ?_
  intro W6 hW6 r1 r2 r3 r4 r5
  rw[hW6]
  refine bodyPost_ret (results_cell_row (cs:= #[.int .i64 (R1:Nat),.slice a d.length cap]) rfl _ W6 W.heap.size 103 (0,0) _ rfl r5 Tryz.underlying103 rfl (by kernel_rfl)) rfl ?_
  refine ⟨_,_,rfl,?_,?_,r3,r4⟩
  ·rw[hu];exact r1
  ·rw[hu];simpa using r2
end Go.Vc
