/-
  The walk of the reader's group (say).
-/
import Derived.Test.YtaehhpempnelhaaGreatDoorQYt
set_option maxRecDepth 100000
namespace Go.Vc
open Go Go.Proofs Go.RowKit Go.Plain
theorem ame:(Tryz.prog.info? 3).map (fun i=>(i.zero,i.size,i.bytes))=some (some (.int .i64 0),1,8):=by kernel_rfl
theorem Yc:(Tryz.prog.info? 103).map (fun i=>(i.zero,i.size,i.bytes))=some (some (.agg #[.int .i64 0,.slice none 0 0]),2,32):=by kernel_rfl
theorem alk:(Tryz.prog.info? 127).map (fun i=>(i.zero,i.size,i.bytes))=some (some (.agg #[.int .i64 0,.int .i64 0]),2,16):=by kernel_rfl
theorem NJ(n:Int)(dv:Value)(h:dv.oneCell'=true):∀u∈[Value.int .i64 n,dv],u.oneCell'=true:=by
 intro u hu;rcases iH.1 hu with e|e
 .rw[e];rfl
 .rw[List.mem_singleton.1 e];exact h
theorem IC{W W2 W3:World}{lo pb rb N i:Nat}{v nv sv:Value}{b:Bool}{ws:List (List UInt8)}(b2:Below lo W W2)(hgt:W2.grownBy W3 v.ownBlock)(nA:∀g,v.ownBlock=some g->g<N/\lo<=g/\g≠pb/\g≠rb)(hpb:lo<=pb)(hpr:pb≠rb)
  (h2:dX W2 rb sv b) (w2:gT W2 lo rb sv ws) (hlo:lo<=W2.heap.size):
  dX (W3.setCell ⟨pb,i,none⟩ nv) rb sv b/\gT (W3.setCell ⟨pb,i,none⟩ nv) lo rb sv ws/\Below lo W (W3.setCell ⟨pb,i,none⟩ nv):=by
 refine ⟨h2.of_heap ?_,w2.jv fun k hk hkr=>?_,nO (b2.trans ⟨hgt.os,hgt.tape,hgt.output,hgt.size,fun j hj=>hgt.block j (by omega) (fun e=>by have:=(nA j e.symm).2.1;omega)⟩) hpb _ _⟩
 .rw[Below.heap_setCell _ _ _ _ (by simp;omega)];exact hgt.block rb h2.lt (fun e=>(nA rb e.symm).2.2.2 rfl)
 .rw[Below.heap_setCell _ _ _ _ (by simp;omega)];exact hgt.block k (by omega) (fun e=>by have:=(nA k e.symm).2.1;omega)
set_option maxHeartbeats 8000000 in
theorem alJ(W : World)(aL : KW Tryz.prog W)(lo pb rb : Nat)(hlo : lo <= W.heap.size)(hkl : ∀ g, uW Tryz.prog g -> g < lo)(p : Pl)(sv : Value)(wr : Bool)(ws : List (List UInt8))(hlen : ∀ w ∈ ws, w.length <= 1000000)(hp : iT W lo pb rb p)(h : dX W rb sv wr)(hw : gT W lo rb sv ws)
    (hpl : p.maps.length <= 1000000 /\ p.over.length <= 1000000 /\ p.drops.length <= 1000000 /\ p.adds.length <= 1000000) (G : Pl × List (List UInt8) × Bool) (hG : nD p ws wr = G) :
    Calls Tryz.prog 50 #[.pointer (some ⟨rb, 0, none⟩), .pointer (some ⟨pb, 0, none⟩)] W fun e W' => ∃ lD, e = .returned (.tuple #[]) /\ iT W' lo pb rb G.1 /\ dX W' rb lD G.2.2 /\ gT W' lo rb lD G.2.1 /\ Below lo W W' := by
  have hrb : lo <= rb := by obtain ⟨_, _, _, _, _, _, _, _, h3, _⟩ := hp; exact h3
  have hpb : lo <= pb := by obtain ⟨_, _, _, _, _, _, _, h3, _⟩ := hp; exact h3
  have hpr : pb ≠ rb := by obtain ⟨_, _, _, _, _, _, _, _, _, h3, _⟩ := hp; exact h3
  have hx0 : (ws.headD []).length <= 1000000 := by cases ws with | nil => simp | cons x t => exact hlen x (by simp)
  have hx1 : (ws.tail.headD []).length <= 1000000 := by
    rcases ws with _ | ⟨x, _ | ⟨y, t⟩⟩
    . simp
    . simp
    . exact hlen y (by simp)
  have hx2 : (ws.tail.tail.headD []).length <= 1000000 := by
    rcases ws with _ | ⟨x, _ | ⟨y, _ | ⟨z, t⟩⟩⟩
    . simp
    . simp
    . simp
    . exact hlen z (by simp)
  obtain ⟨w0, hw0⟩ : ∃ w0, ws.headD [] = w0 := ⟨_, rfl⟩;obtain ⟨x, hx⟩ : ∃ x, ws.tail.headD [] = x := ⟨_, rfl⟩;obtain ⟨y, hy⟩ : ∃ y, ws.tail.tail.headD [] = y := ⟨_, rfl⟩;simp only [nD, hw0, hx, hy] at hG;rw [hw0] at hx0;rw [hx] at hx1;rw [hy] at hx2;have e1 : (w0 == [109, 97, 114, 107, 101, 114]) = decide (w0 = xC) := oI w0 xC;have e2 : (w0 == [116, 121, 112, 101]) = decide (w0 = xQ) := oI w0 xQ;have e3 : (w0 == [115, 101, 113]) = decide (w0 = yu) := oI w0 yu;have e4 : (w0 == [116, 105, 109, 101]) = decide (w0 = xR) := oI w0 xR;have e5 : (w0 == [115, 115, 114, 99]) = decide (w0 = xS) := oI w0 xS;have e6 : (w0 == [109, 97, 112]) = decide (w0 = sH) := oI w0 sH;have e7 : (w0 == [111, 118, 101, 114]) = decide (w0 = pY) := oI w0 pY;have e8 : (w0 == [100, 114, 111, 112]) = decide (w0 = rZ) := oI w0 rZ;have e9 : (w0 == [97, 100, 100]) = decide (w0 = qg) := oI w0 qg;have e10 : (w0 == [110, 111, 112, 97, 100]) = decide (w0 = xI) := oI w0 xI;go_enter Tryz.func50, Tryz.ntmps50
  go_wp2_with (go_at_call 96; refine (Yp W lo rb hlo sv wr ws w0 hw0 h hw).mono ?_)
  first | (rintro e W1 rfl jC h1 w1 g1) | (rintro e W1 jC rfl h1 w1 g1) | (rintro e W1 ⟨jC, rfl, h1, w1, g1⟩)
  have p1 := hp.keep g1.size (fun k hk hkr => g1.block k hk (by simp; exact fun e => hkr e));have hs1 := g1.size;have b1 := below_grown g1 hlo hrb;by_cases c1 : w0 = xC
  . rw [if_pos c1] at hG
    rw [decide_eq_true c1] at e1;obtain ⟨von, J4⟩ : ∃ b, decide (x = uR) = b := ⟨_, rfl⟩;obtain ⟨voff, JE⟩ : ∃ b, decide (x ≠ uz) = b := ⟨_, rfl⟩;have d1 : (x == [111, 110]) = von := by rw [<- J4]; exact oI x uR
    have d2 : (x != [111, 110]) = !von := by unfold bne; rw [d1]
    have d3 : (x != [111, 102, 102]) = voff := by rw [<- JE]; unfold bne; rw [show (x == [111, 102, 102]) = decide (x = uz) from oI x uz]; simp
    have d4 : (x == [111, 102, 102]) = !voff := by rw [<- JE, show (x == [111, 102, 102]) = decide (x = uz) from oI x uz]; simp
    have hno : decide (x ≠ uR) = !von := by rw [<- J4]; simp
    rw [J4, JE, hno] at hG;subst hG;clear J4 JE hno;go_wp2_with (go_at_call 96; refine (Yp W1 lo rb (by omega) jC _ ws.tail x hx h1 w1).mono ?_)
    first | (rintro e W2 rfl gP h2 w2 g2) | (rintro e W2 gP rfl h2 w2 g2) | (rintro e W2 ⟨gP, rfl, h2, w2, g2⟩)
    have p2 := p1.keep g2.size (fun k hk hkr => g2.block k hk (by simp; exact fun e => hkr e));have b2 := b1.trans (below_grown g2 (by omega) hrb);obtain ⟨vm, vo, vd, va, hb2⟩ := p2.block;have Gr := fun j => Lib.frozen_of_heap hb2 j;have cA : W2.cell? ⟨pb, 0, none⟩ = some (.bool p.sm) := by rw [Lib.cell_of_heap hb2]; rfl
    have cB : W2.cell? ⟨pb, 1, none⟩ = some (.bool p.m) := by rw [Lib.cell_of_heap hb2]; rfl
    have q2 := (p2.set (p' := { p with sm := true }) 0 (.bool true) (fun _ _ _ _ => rfl) rfl rfl rfl rfl).set (p' := { p with sm := true, m := von }) 1 (.bool von) (fun _ _ _ _ => rfl) rfl rfl rfl rfl;have r2 := h2.of_heap (W' := (W2.setCell ⟨pb, 0, none⟩ (.bool true)).setCell ⟨pb, 1, none⟩ (.bool von)) (by rw [Below.heap_setCell _ _ _ _ (by simp; omega), Below.heap_setCell _ _ _ _ (by simp; omega)]);have u2 := w2.jv (W' := (W2.setCell ⟨pb, 0, none⟩ (.bool true)).setCell ⟨pb, 1, none⟩ (.bool von)) (fun k hk _ => by rw [Below.heap_setCell _ _ _ _ (by simp; omega), Below.heap_setCell _ _ _ _ (by simp; omega)]);have v2 := nO (nO b2 hpb 0 (.bool true)) hpb 1 (.bool von);have cR := r2.cell1;have fR := r2.frozen;have q3 := fun b => q2.keep (W' := ((W2.setCell ⟨pb, 0, none⟩ (.bool true)).setCell ⟨pb, 1, none⟩ (.bool von)).setCell ⟨rb, 1, none⟩ (.bool b)) (by simp [World.setCell]) (fun k hk hkr => by rw [Below.heap_setCell _ _ _ _ (by simpa using hkr)]);have r3 := fun b => r2.set1 b;have u3 := fun b => u2.jv (W' := ((W2.setCell ⟨pb, 0, none⟩ (.bool true)).setCell ⟨pb, 1, none⟩ (.bool von)).setCell ⟨rb, 1, none⟩ (.bool b)) (fun k hk hkr => by rw [Below.heap_setCell _ _ _ _ (by simpa using hkr)]);have v3 := fun b => nO v2 hrb 1 (.bool b);cases hbw : ((wr || ws.isEmpty) || ws.tail.isEmpty) with
    | true =>
      rw [hbw] at cR;go_wp2
      go_end0
      first | exact ⟨rfl, q3 true, _, r3 true, u3 true, v3 true⟩ | exact ⟨_, rfl, q3 true, r3 true, u3 true, v3 true⟩
    | false =>
      rw [hbw] at cR;cases von with
      | true =>
        go_wp2
        go_end0
        first | exact ⟨rfl, q3 false, _, r3 false, u3 false, v3 false⟩ | exact ⟨_, rfl, q3 false, r3 false, u3 false, v3 false⟩
      | false =>
        go_wp2
        go_end0
        simp only [Bool.false_or, Bool.true_and, Bool.not_false, d4, Bool.not_not];exact ⟨trivial, q3 _, _, r3 _, u3 _, v3 _⟩
  . rw [if_neg c1] at hG
    rw [decide_eq_false c1] at e1;by_cases c2 : w0 = xQ
    . rw [if_pos c2] at hG
      rw [decide_eq_true c2] at e2;subst hG;go_wp2_with (go_at_call 97; refine (Ew W1 lo rb (by omega) jC _ ws.tail x hx hx1 _ rfl h1 w1).mono ?_)
      first | (rintro e W2 rfl gP h2 w2 g2) | (rintro e W2 gP rfl h2 w2 g2) | (rintro e W2 ⟨gP, rfl, h2, w2, g2⟩)
      have p2 := p1.keep g2.size (fun k hk hkr => g2.block k hk (by simp; exact fun e => hkr e));have b2 := b1.trans (below_grown g2 (by omega) hrb);obtain ⟨vm, vo, vd, va, hb2⟩ := p2.block;have Gr := fun j => Lib.frozen_of_heap hb2 j;have cA : W2.cell? ⟨pb, 2, none⟩ = some (.bool p.st) := by rw [Lib.cell_of_heap hb2]; rfl
      have cB : W2.cell? ⟨pb, 3, none⟩ = some (.int .i64 p.ty) := by rw [Lib.cell_of_heap hb2]; rfl
      have hle := zC 255 (chunks x) 0 (by omega);change (aX 255 x).1 <= 255 at hle
      have q2 := (p2.set (p' := { p with st := true }) 2 (.bool true) (fun _ _ _ _ => rfl) rfl rfl rfl rfl).set (p' := { p with st := true, ty := ((aX 255 x).1 : Nat) }) 3 (.int .i64 ((aX 255 x).1 : Nat)) (fun _ _ _ _ => rfl) rfl rfl rfl rfl;have r2 := h2.of_heap (W' := (W2.setCell ⟨pb, 2, none⟩ (.bool true)).setCell ⟨pb, 3, none⟩ (.int .i64 ((aX 255 x).1 : Nat))) (by rw [Below.heap_setCell _ _ _ _ (by simp; omega), Below.heap_setCell _ _ _ _ (by simp; omega)]);have u2 := w2.jv (W' := (W2.setCell ⟨pb, 2, none⟩ (.bool true)).setCell ⟨pb, 3, none⟩ (.int .i64 ((aX 255 x).1 : Nat))) (fun k hk _ => by rw [Below.heap_setCell _ _ _ _ (by simp; omega), Below.heap_setCell _ _ _ _ (by simp; omega)]);have v2 := nO (nO b2 hpb 2 (.bool true)) hpb 3 (.int .i64 ((aX 255 x).1 : Nat));have hmod : (((aX 255 x).1 : Nat) : Int) % 18446744073709551616 = ((aX 255 x).1 : Nat) := by omega
      go_wp2
      go_end0
      first | exact ⟨rfl, q2, _, r2, u2, v2⟩ | exact ⟨_, rfl, q2, r2, u2, v2⟩
    . rw [if_neg c2] at hG
      rw [decide_eq_false c2] at e2;by_cases c3 : w0 = yu
      . rw [if_pos c3] at hG
        rw [decide_eq_true c3] at e3;subst hG;go_wp2_with (go_at_call 98; refine (GX W1 lo rb (by omega) jC _ ws.tail 65535 (by omega) x hx hx1 _ rfl h1 w1).mono ?_)
        first | (rintro e W2 rfl gP h2 w2 g2) | (rintro e W2 gP rfl h2 w2 g2) | (rintro e W2 ⟨gP, rfl, h2, w2, g2⟩)
        have p2 := p1.keep g2.size (fun k hk hkr => g2.block k hk (by simp; exact fun e => hkr e));have b2 := b1.trans (below_grown g2 (by omega) hrb);obtain ⟨vm, vo, vd, va, hb2⟩ := p2.block;have Gr := fun j => Lib.frozen_of_heap hb2 j;have cA : W2.cell? ⟨pb, 4, none⟩ = some (.bool p.sq) := by rw [Lib.cell_of_heap hb2]; rfl
        have cB : W2.cell? ⟨pb, 5, none⟩ = some (.int .u16 p.seq) := by rw [Lib.cell_of_heap hb2]; rfl
        have hle := zC 65535 (chunks x) 0 (by omega);change (aX 65535 x).1 <= 65535 at hle
        have q2 := (p2.set (p' := { p with sq := true }) 4 (.bool true) (fun _ _ _ _ => rfl) rfl rfl rfl rfl).set (p' := { p with sq := true, seq := ((aX 65535 x).1 : Nat) }) 5 (.int .u16 ((aX 65535 x).1 : Nat)) (fun _ _ _ _ => rfl) rfl rfl rfl rfl;have r2 := h2.of_heap (W' := (W2.setCell ⟨pb, 4, none⟩ (.bool true)).setCell ⟨pb, 5, none⟩ (.int .u16 ((aX 65535 x).1 : Nat))) (by rw [Below.heap_setCell _ _ _ _ (by simp; omega), Below.heap_setCell _ _ _ _ (by simp; omega)]);have u2 := w2.jv (W' := (W2.setCell ⟨pb, 4, none⟩ (.bool true)).setCell ⟨pb, 5, none⟩ (.int .u16 ((aX 65535 x).1 : Nat))) (fun k hk _ => by rw [Below.heap_setCell _ _ _ _ (by simp; omega), Below.heap_setCell _ _ _ _ (by simp; omega)]);have v2 := nO (nO b2 hpb 4 (.bool true)) hpb 5 (.int .u16 ((aX 65535 x).1 : Nat));have hmod : (((aX 65535 x).1 : Nat) : Int) % 65536 = ((aX 65535 x).1 : Nat) := by omega
        go_wp2
        go_end0
        first | exact ⟨rfl, q2, _, r2, u2, v2⟩ | exact ⟨_, rfl, q2, r2, u2, v2⟩
      . rw [if_neg c3] at hG
        rw [decide_eq_false c3] at e3;by_cases c4 : w0 = xR
        . rw [if_pos c4] at hG
          rw [decide_eq_true c4] at e4;subst hG;go_wp2_with (go_at_call 98; refine (GX W1 lo rb (by omega) jC _ ws.tail 4294967295 (by omega) x hx hx1 _ rfl h1 w1).mono ?_)
          first | (rintro e W2 rfl gP h2 w2 g2) | (rintro e W2 gP rfl h2 w2 g2) | (rintro e W2 ⟨gP, rfl, h2, w2, g2⟩)
          have p2 := p1.keep g2.size (fun k hk hkr => g2.block k hk (by simp; exact fun e => hkr e));have b2 := b1.trans (below_grown g2 (by omega) hrb);obtain ⟨vm, vo, vd, va, hb2⟩ := p2.block;have Gr := fun j => Lib.frozen_of_heap hb2 j;have cA : W2.cell? ⟨pb, 6, none⟩ = some (.bool p.bL) := by rw [Lib.cell_of_heap hb2]; rfl
          have cB : W2.cell? ⟨pb, 7, none⟩ = some (.int .u32 p.time) := by rw [Lib.cell_of_heap hb2]; rfl
          have hle := zC 4294967295 (chunks x) 0 (by omega);change (aX 4294967295 x).1 <= 4294967295 at hle
          have q2 := (p2.set (p' := { p with bL := true }) 6 (.bool true) (fun _ _ _ _ => rfl) rfl rfl rfl rfl).set (p' := { p with bL := true, time := ((aX 4294967295 x).1 : Nat) }) 7 (.int .u32 ((aX 4294967295 x).1 : Nat)) (fun _ _ _ _ => rfl) rfl rfl rfl rfl;have r2 := h2.of_heap (W' := (W2.setCell ⟨pb, 6, none⟩ (.bool true)).setCell ⟨pb, 7, none⟩ (.int .u32 ((aX 4294967295 x).1 : Nat))) (by rw [Below.heap_setCell _ _ _ _ (by simp; omega), Below.heap_setCell _ _ _ _ (by simp; omega)]);have u2 := w2.jv (W' := (W2.setCell ⟨pb, 6, none⟩ (.bool true)).setCell ⟨pb, 7, none⟩ (.int .u32 ((aX 4294967295 x).1 : Nat))) (fun k hk _ => by rw [Below.heap_setCell _ _ _ _ (by simp; omega), Below.heap_setCell _ _ _ _ (by simp; omega)]);have v2 := nO (nO b2 hpb 6 (.bool true)) hpb 7 (.int .u32 ((aX 4294967295 x).1 : Nat));have hmod : (((aX 4294967295 x).1 : Nat) : Int) % 4294967296 = ((aX 4294967295 x).1 : Nat) := by omega
          go_wp2
          go_end0
          first | exact ⟨rfl, q2, _, r2, u2, v2⟩ | exact ⟨_, rfl, q2, r2, u2, v2⟩
        . rw [if_neg c4] at hG
          rw [decide_eq_false c4] at e4;by_cases c5 : w0 = xS
          . rw [if_pos c5] at hG
            rw [decide_eq_true c5] at e5;subst hG;go_wp2_with (go_at_call 98; refine (GX W1 lo rb (by omega) jC _ ws.tail 4294967295 (by omega) x hx hx1 _ rfl h1 w1).mono ?_)
            first | (rintro e W2 rfl gP h2 w2 g2) | (rintro e W2 gP rfl h2 w2 g2) | (rintro e W2 ⟨gP, rfl, h2, w2, g2⟩)
            have p2 := p1.keep g2.size (fun k hk hkr => g2.block k hk (by simp; exact fun e => hkr e));have b2 := b1.trans (below_grown g2 (by omega) hrb);obtain ⟨vm, vo, vd, va, hb2⟩ := p2.block;have Gr := fun j => Lib.frozen_of_heap hb2 j;have cA : W2.cell? ⟨pb, 8, none⟩ = some (.bool p.ss) := by rw [Lib.cell_of_heap hb2]; rfl
            have cB : W2.cell? ⟨pb, 9, none⟩ = some (.int .u32 p.aN) := by rw [Lib.cell_of_heap hb2]; rfl
            have hle := zC 4294967295 (chunks x) 0 (by omega);change (aX 4294967295 x).1 <= 4294967295 at hle
            have q2 := (p2.set (p' := { p with ss := true }) 8 (.bool true) (fun _ _ _ _ => rfl) rfl rfl rfl rfl).set (p' := { p with ss := true, aN := ((aX 4294967295 x).1 : Nat) }) 9 (.int .u32 ((aX 4294967295 x).1 : Nat)) (fun _ _ _ _ => rfl) rfl rfl rfl rfl;have r2 := h2.of_heap (W' := (W2.setCell ⟨pb, 8, none⟩ (.bool true)).setCell ⟨pb, 9, none⟩ (.int .u32 ((aX 4294967295 x).1 : Nat))) (by rw [Below.heap_setCell _ _ _ _ (by simp; omega), Below.heap_setCell _ _ _ _ (by simp; omega)]);have u2 := w2.jv (W' := (W2.setCell ⟨pb, 8, none⟩ (.bool true)).setCell ⟨pb, 9, none⟩ (.int .u32 ((aX 4294967295 x).1 : Nat))) (fun k hk _ => by rw [Below.heap_setCell _ _ _ _ (by simp; omega), Below.heap_setCell _ _ _ _ (by simp; omega)]);have v2 := nO (nO b2 hpb 8 (.bool true)) hpb 9 (.int .u32 ((aX 4294967295 x).1 : Nat));have hmod : (((aX 4294967295 x).1 : Nat) : Int) % 4294967296 = ((aX 4294967295 x).1 : Nat) := by omega
            go_wp2
            go_end0
            first | exact ⟨rfl, q2, _, r2, u2, v2⟩ | exact ⟨_, rfl, q2, r2, u2, v2⟩
          . rw [if_neg c5] at hG
            rw [decide_eq_false c5] at e5;by_cases c6 : w0 = sH
            . rw [if_pos c6] at hG
              rw [decide_eq_true c6] at e6;subst hG;go_wp2_with (go_at_call 97; refine (Ew W1 lo rb (by omega) jC _ ws.tail x hx hx1 _ rfl h1 w1).mono ?_)
              first | (rintro e W2 rfl gP h2 w2 g2) | (rintro e W2 gP rfl h2 w2 g2) | (rintro e W2 ⟨gP, rfl, h2, w2, g2⟩)
              have hs2 := g2.size;have hA : dX (W2.alloc (.cells #[.int .i64 ((aX 255 x).1 : Nat), .int .i64 0] 127)) rb gP _ := h2.of_heap (Lib.alloc_old W2 _ rb h2.lt);have wA : gT (W2.alloc (.cells #[.int .i64 ((aX 255 x).1 : Nat), .int .i64 0] 127)) lo rb gP _ := w2.jv fun k hk _ => Lib.alloc_old W2 _ k (by omega);have bA : (W2.alloc (.cells #[.int .i64 ((aX 255 x).1 : Nat), .int .i64 0] 127)).heap[W2.heap.size]? = some (.cells #[.int .i64 ((aX 255 x).1 : Nat), .int .i64 0] 127 (0, 0)) := alloc_at W2 _;have gA : W1.grownBy (W2.alloc (.cells #[.int .i64 ((aX 255 x).1 : Nat), .int .i64 0] 127)) (some rb) := Lr g2 _;have sA : (W2.alloc (.cells #[.int .i64 ((aX 255 x).1 : Nat), .int .i64 0] 127)).heap.size = W2.heap.size + 1 := by simp
              have hr2 := h2.lt;go_wp2_with (go_at_call 97; refine (Ew _ lo rb (by rw [sA]; omega) gP _ ws.tail.tail y hy hx2 _ rfl hA wA).mono ?_)
              first | (rintro e W3 rfl sv3 h3 w3 g3) | (rintro e W3 sv3 rfl h3 w3 g3) | (rintro e W3 ⟨sv3, rfl, h3, w3, g3⟩)
              have hs3 := g3.size;have b3 : W3.heap[W2.heap.size]? = some (.cells #[.int .i64 ((aX 255 x).1 : Nat), .int .i64 0] 127 (0, 0)) := (g3.block _ (by omega) (by simp; omega)).trans bA;have g13 : W1.grownBy W3 (some rb) := nM gA g3;have f3 := fun j => Lib.frozen_of_heap b3 j;have c30 : W3.cell? ⟨W2.heap.size, 0, none⟩ = some (.int .i64 ((aX 255 x).1 : Nat)) := by rw [Lib.cell_of_heap b3]; rfl
              have c31 : W3.cell? ⟨W2.heap.size, 1, none⟩ = some (.int .i64 0) := by rw [Lib.cell_of_heap b3]; rfl
              clear bA gA hA wA;go_wp2_with fail
              obtain ⟨W4, yU⟩ : ∃ W4, W3.setCell ⟨W2.heap.size, 1, none⟩ (.int .i64 ((aX 255 y).1 : Nat)) = W4 := ⟨_, rfl⟩;have g14 : W1.grownBy W4 (some rb) := by
                rw [<- yU];exact ⟨g13.os, g13.tape, g13.output, by simpa [World.setCell] using g13.size, fun k hk hn => by rw [Below.heap_setCell _ _ _ _ (by simp; omega)]; exact g13.block k hk hn⟩
              have hx4 : W4.heap[W2.heap.size]? = some (.cells #[.int .i64 ((aX 255 x).1 : Nat), .int .i64 ((aX 255 y).1 : Nat)] 127 (0, 0)) := by
                rw [<- yU];simp [World.setCell, Array.getElem?_modify, b3]
              have h4 := h3.of_heap (W' := W4) (by rw [<- yU]; exact Below.heap_setCell _ _ _ _ (by simp; omega));have w4 := w3.jv (W' := W4) (fun k hk _ => by rw [<- yU]; exact Below.heap_setCell _ _ _ _ (by simp; omega));rw [yU];clear yU c30 c31 f3 b3 h3 w3 g13 g3;have c40 : W4.cell? ⟨W2.heap.size, 0, none⟩ = some (.int .i64 ((aX 255 x).1 : Nat)) := by rw [Lib.cell_of_heap hx4]; rfl
              have c41 : W4.cell? ⟨W2.heap.size, 1, none⟩ = some (.int .i64 ((aX 255 y).1 : Nat)) := by rw [Lib.cell_of_heap hx4]; rfl
              obtain ⟨vm, cA0, tA, nA, kA⟩ := p1.aom h1.lt;obtain ⟨cB, fB, oB, kB⟩ := kA W4 g14;have hsz1 := h1.lt;have aq3 := g14.size;have CK : pb < W4.heap.size := World.block_lt_of_cell? _ _ cB;have asj : W2.heap.size < W4.heap.size := World.block_lt_of_cell? _ _ c40;obtain ⟨i0, hi0, hz0, hz1, hz2⟩ := info_parts alk;have g4r := World.grownBy.refl W4 (some rb);go_region_law (first
                  | (refine step_append_lies _ (by rfl) _ _ _ (by rfl) lo 127 i0 _ 2 16 Tryz.underlying25 hi0 hz0 hz1 hz2 rfl (by omega) vm p.maps.length _ (by rfl) (oB.alloc _)
                       ⟨W4.heap.size, 0, none⟩ 1 1 [.int .i64 ((aX 255 x).1 : Nat), .int .i64 ((aX 255 y).1 : Nat)] (by rfl) (by rfl) (World.news_of_block (cs := #[.int .i64 ((aX 255 x).1 : Nat), .int .i64 ((aX 255 y).1 : Nat)]) (t := 127) (fr := (0, 0)) (heap_alloc_new W4 _)) (NJ _ _ rfl)
                       (by omega) (by unfold maxLen; omega) (by omega) (by simp; omega) (W4.heap.size + 1) (by simp) ?_
                     intro g cap W5 hown hgrow hat hlt;have hgt : W4.grownBy W5 vm.ownBlock := nM (World.grownBy_alloc W4 _ _) ⟨hgrow.os, hgrow.tape, hgrow.output, hgrow.size, hgrow.block⟩;have cC : W5.cell? ⟨pb, 10, none⟩ = some vm := by rw [hgt.cell_far _ (World.block_lt_of_cell? _ _ cB) (Ne.symm tA)]; exact cB
                     have fC : W5.frozen? ⟨pb, 10, none⟩ = false := by rw [hgt.frozen_far _ (World.block_lt_of_cell? _ _ cB) (Ne.symm tA)]; exact fB))
              all_goals
                have q3 := kB ⟨((aX 255 x).1 : Nat), ((aX 255 y).1 : Nat)⟩ W5 g cap hgt (hat.imp id (fun e => by omega)) hown;obtain ⟨r3, u3, v3⟩ := IC (i := 10) (nv := (.slice (some ⟨g, 0, none⟩) (p.maps.length + 1) cap)) (b1.trans (below_grown g14 (kL hlo hs1) hrb)) hgt nA hpb hpr h4 w4 (by omega);clear kA kB;go_wp2
                go_end0
                first | exact ⟨rfl, q3, _, r3, u3, v3⟩ | exact ⟨_, rfl, q3, r3, u3, v3⟩ | exact ⟨trivial, q3, _, r3, u3, v3⟩
            . rw [if_neg c6] at hG
              rw [decide_eq_false c6] at e6;by_cases c7 : w0 = pY
              . rw [if_pos c7] at hG
                rw [decide_eq_true c7] at e7;subst hG;obtain ⟨vo, xs, cA, tA, nA, kA⟩ := p1.aol h1.lt;have hsz1 := h1.lt;have CK : pb < W1.heap.size := World.block_lt_of_cell? _ _ cA;obtain ⟨i0, hi0, hz0, hz1, hz2⟩ := info_parts Yc;have Az : KW Tryz.prog W1 := aL.keep fun g hg => g1.block g (aL.lt hg) (by have := hkl g hg; simp; omega);go_wp2_with fail
                go_region_law (first
                    | (go_simp
                       go_at_call 99
                       refine (WS W1.drew Az lo rb (kL hlo hs1) jC _ ws.tail x y hx hy hx1 hx2 (fun g hg => by have := hkl g hg; omega) _ rfl h1 w1).mono ?_;first | (rintro e W2 rfl gP dv AU h2 w2 g2) | (rintro e W2 gP dv rfl AU h2 w2 g2) | (rintro e W2 ⟨gP, dv, rfl, AU, h2, w2, g2⟩)
                       have g2' : W1.grownBy W2 (some rb) := ⟨g2.os, g2.tape, g2.output, g2.size, g2.block⟩;have hsz2 := g2'.size;have ad4 : pb < W2.heap.size := zx CK hsz2;obtain ⟨cB, fB, oB, kB⟩ := kA W2 g2';have FQ : Rd W2 (fun b => W1.heap.size <= b) (.sl (.int .u8)) [dv] (.ls (ofBytes ((iW y).getD []))) := AU;have Pz : dv.oneCell' = true := by obtain ⟨a, cap, e1, _⟩ := id FQ; simp only [iJ, and_true] at e1; rw [e1]; rfl)
                    | (refine step_append_lies _ (by rfl) _ _ _ (by rfl) lo 103 i0 _ 2 32 Tryz.underlying26 hi0 hz0 hz1 hz2 rfl (by omega) vo p.over.length _ (by rfl) (oB.alloc _)
                         ⟨W2.heap.size, 0, none⟩ 1 1 [.int .i64 ((aX 255 x).1 : Nat), dv] (by rfl) (by rfl) (World.news_of_block (cs := #[.int .i64 ((aX 255 x).1 : Nat), dv]) (t := 103) (fr := (0, 0)) (heap_alloc_new W2 _)) (NJ _ dv Pz)
                         (by omega) (by unfold maxLen; omega) (by omega) (by simp; omega) (W2.heap.size + 1) (by simp) ?_
                       intro g cap W3 hown hgrow hat hlt;have hgt : W2.grownBy W3 vo.ownBlock := nM (World.grownBy_alloc W2 _ _) ⟨hgrow.os, hgrow.tape, hgrow.output, hgrow.size, hgrow.block⟩;have cC : W3.cell? ⟨pb, 11, none⟩ = some vo := by rw [hgt.cell_far _ (World.block_lt_of_cell? _ _ cB) (Ne.symm tA)]; exact cB
                       have fC : W3.frozen? ⟨pb, 11, none⟩ = false := by rw [hgt.frozen_far _ (World.block_lt_of_cell? _ _ cB) (Ne.symm tA)]; exact fB))
                all_goals
                  have q3 := kB W1.heap.size (aI _) ⟨((aX 255 x).1 : Nat), (iW y).getD []⟩ dv FQ W3 g cap hgt (hat.imp id (fun e => by omega)) hown;obtain ⟨r3, u3, v3⟩ := IC (i := 11) (nv := (.slice (some ⟨g, 0, none⟩) (p.over.length + 1) cap)) (b1.trans (below_grown g2' (kL hlo hs1) hrb)) hgt nA hpb hpr h2 w2 (by omega);try rw [Option.not_isSome] at r3
                  clear kA kB;go_wp2
                  go_end0
                  first | exact ⟨rfl, q3, _, r3, u3, v3⟩ | exact ⟨_, rfl, q3, r3, u3, v3⟩ | exact ⟨trivial, q3, _, r3, u3, v3⟩
              . rw [if_neg c7] at hG
                rw [decide_eq_false c7] at e7;by_cases c8 : w0 = rZ
                . rw [if_pos c8] at hG
                  rw [decide_eq_true c8] at e8;subst hG;obtain ⟨vd, cA, tA, nA, kA⟩ := p1.am9 h1.lt;have hsz1 := h1.lt;obtain ⟨i0, hi0, hz0, hz1, hz2⟩ := info_parts ame;go_wp2_with fail
                  have CK : pb < W1.heap.size := World.block_lt_of_cell? _ _ cA;go_region_law (first
                      | (go_simp
                         go_at_call 97
                         refine (Ew W1.drew lo rb (kL hlo hs1) jC _ ws.tail x hx hx1 _ rfl h1 w1).mono ?_;first | (rintro e W2 rfl gP h2 w2 g2) | (rintro e W2 gP rfl h2 w2 g2) | (rintro e W2 ⟨gP, rfl, h2, w2, g2⟩)
                         have g2' : W1.grownBy W2 (some rb) := ⟨g2.os, g2.tape, g2.output, g2.size, g2.block⟩;have hsz2 := g2'.size;have ad4 : pb < W2.heap.size := zx CK hsz2;obtain ⟨cB, fB, oB, kB⟩ := kA W2 g2')
                      | (refine step_append_lies _ (by rfl) _ _ _ (by rfl) lo 3 i0 _ 1 8 Tryz.underlying27 hi0 hz0 hz1 hz2 rfl (by omega) vd p.drops.length _ (by rfl) (oB.alloc _)
                           ⟨W2.heap.size, 0, none⟩ 1 1 [.int .i64 ((aX 255 x).1 : Nat)] (by rfl) (by rfl) (World.news_of_block (cs := #[.int .i64 ((aX 255 x).1 : Nat)]) (t := 3) (fr := (0, 0)) (heap_alloc_new W2 _)) (by simp [Value.oneCell'])
                           (by omega) (by unfold maxLen; omega) (by omega) (by simp; omega) (W2.heap.size + 1) (by simp) ?_
                         intro g cap W3 hown hgrow hat hlt;have hgt : W2.grownBy W3 vd.ownBlock := nM (World.grownBy_alloc W2 _ _) ⟨hgrow.os, hgrow.tape, hgrow.output, hgrow.size, hgrow.block⟩;have cC : W3.cell? ⟨pb, 12, none⟩ = some vd := by rw [hgt.cell_far _ (World.block_lt_of_cell? _ _ cB) (Ne.symm tA)]; exact cB
                         have fC : W3.frozen? ⟨pb, 12, none⟩ = false := by rw [hgt.frozen_far _ (World.block_lt_of_cell? _ _ cB) (Ne.symm tA)]; exact fB))
                  all_goals
                    have q3 := kB ((aX 255 x).1 : Nat) W3 g cap hgt (hat.imp id (fun e => by omega)) hown;obtain ⟨r3, u3, v3⟩ := IC (i := 12) (nv := (.slice (some ⟨g, 0, none⟩) (p.drops.length + 1) cap)) (b1.trans (below_grown g2' (kL hlo hs1) hrb)) hgt nA hpb hpr h2 w2 (by omega);try rw [Option.not_isSome] at r3
                    clear kA kB;go_wp2
                    go_end0
                    first | exact ⟨rfl, q3, _, r3, u3, v3⟩ | exact ⟨_, rfl, q3, r3, u3, v3⟩ | exact ⟨trivial, q3, _, r3, u3, v3⟩
                . rw [if_neg c8] at hG
                  rw [decide_eq_false c8] at e8;by_cases c9 : w0 = qg
                  . rw [if_pos c9] at hG
                    rw [decide_eq_true c9] at e9;subst hG;obtain ⟨va, xs, cA, tA, nA, kA⟩ := p1.aon h1.lt;have hsz1 := h1.lt;have CK : pb < W1.heap.size := World.block_lt_of_cell? _ _ cA;obtain ⟨i0, hi0, hz0, hz1, hz2⟩ := info_parts Yc;have Az : KW Tryz.prog W1 := aL.keep fun g hg => g1.block g (aL.lt hg) (by have := hkl g hg; simp; omega);go_wp2_with fail
                    go_region_law (first
                        | (go_simp
                           go_at_call 99
                           refine (WS W1.drew Az lo rb (kL hlo hs1) jC _ ws.tail x y hx hy hx1 hx2 (fun g hg => by have := hkl g hg; omega) _ rfl h1 w1).mono ?_;first | (rintro e W2 rfl gP dv AU h2 w2 g2) | (rintro e W2 gP dv rfl AU h2 w2 g2) | (rintro e W2 ⟨gP, dv, rfl, AU, h2, w2, g2⟩)
                           have g2' : W1.grownBy W2 (some rb) := ⟨g2.os, g2.tape, g2.output, g2.size, g2.block⟩;have hsz2 := g2'.size;have ad4 : pb < W2.heap.size := zx CK hsz2;obtain ⟨cB, fB, oB, kB⟩ := kA W2 g2';have FQ : Rd W2 (fun b => W1.heap.size <= b) (.sl (.int .u8)) [dv] (.ls (ofBytes ((iW y).getD []))) := AU;have Pz : dv.oneCell' = true := by obtain ⟨a, cap, e1, _⟩ := id FQ; simp only [iJ, and_true] at e1; rw [e1]; rfl)
                        | (refine step_append_lies _ (by rfl) _ _ _ (by rfl) lo 103 i0 _ 2 32 Tryz.underlying26 hi0 hz0 hz1 hz2 rfl (by omega) va p.adds.length _ (by rfl) (oB.alloc _)
                             ⟨W2.heap.size, 0, none⟩ 1 1 [.int .i64 ((aX 255 x).1 : Nat), dv] (by rfl) (by rfl) (World.news_of_block (cs := #[.int .i64 ((aX 255 x).1 : Nat), dv]) (t := 103) (fr := (0, 0)) (heap_alloc_new W2 _)) (NJ _ dv Pz)
                             (by omega) (by unfold maxLen; omega) (by omega) (by simp; omega) (W2.heap.size + 1) (by simp) ?_
                           intro g cap W3 hown hgrow hat hlt;have hgt : W2.grownBy W3 va.ownBlock := nM (World.grownBy_alloc W2 _ _) ⟨hgrow.os, hgrow.tape, hgrow.output, hgrow.size, hgrow.block⟩;have cC : W3.cell? ⟨pb, 13, none⟩ = some va := by rw [hgt.cell_far _ (World.block_lt_of_cell? _ _ cB) (Ne.symm tA)]; exact cB
                           have fC : W3.frozen? ⟨pb, 13, none⟩ = false := by rw [hgt.frozen_far _ (World.block_lt_of_cell? _ _ cB) (Ne.symm tA)]; exact fB))
                    all_goals
                      have q3 := kB W1.heap.size (aI _) ⟨((aX 255 x).1 : Nat), (iW y).getD []⟩ dv FQ W3 g cap hgt (hat.imp id (fun e => by omega)) hown;obtain ⟨r3, u3, v3⟩ := IC (i := 13) (nv := (.slice (some ⟨g, 0, none⟩) (p.adds.length + 1) cap)) (b1.trans (below_grown g2' (kL hlo hs1) hrb)) hgt nA hpb hpr h2 w2 (by omega);try rw [Option.not_isSome] at r3
                      clear kA kB;go_wp2
                      go_end0
                      first | exact ⟨rfl, q3, _, r3, u3, v3⟩ | exact ⟨_, rfl, q3, r3, u3, v3⟩ | exact ⟨trivial, q3, _, r3, u3, v3⟩
                  . rw [if_neg c9] at hG
                    rw [decide_eq_false c9] at e9;by_cases c10 : w0 = xI
                    . rw [if_pos c10] at hG
                      rw [decide_eq_true c10] at e10;subst hG;obtain ⟨vm, vo, vd, va, hb2⟩ := p1.block;have Gr := fun j => Lib.frozen_of_heap hb2 j;have cA : W1.cell? ⟨pb, 14, none⟩ = some (.bool p.np) := by rw [Lib.cell_of_heap hb2]; rfl
                      have q2 := p1.set (p' := { p with np := true }) 14 (.bool true) (fun _ _ _ _ => rfl) rfl rfl rfl rfl;have r2 := h1.of_heap (W' := W1.setCell ⟨pb, 14, none⟩ (.bool true)) (by rw [Below.heap_setCell _ _ _ _ (by simp; omega)]);have u2 := w1.jv (W' := W1.setCell ⟨pb, 14, none⟩ (.bool true)) (fun k hk _ => by rw [Below.heap_setCell _ _ _ _ (by simp; omega)]);have v2 := nO b1 hpb 14 (.bool true);go_wp2
                      go_end0
                      first | exact ⟨rfl, q2, _, r2, u2, v2⟩ | exact ⟨_, rfl, q2, r2, u2, v2⟩
                    . rw [if_neg c10] at hG
                      rw [decide_eq_false c10] at e10;subst hG;have f1 := h1.frozen;have cA := h1.cell1;have q2 := p1.keep (W' := W1.setCell ⟨rb, 1, none⟩ (.bool true)) (by simp [World.setCell]) (fun k hk hkr => by rw [Below.heap_setCell _ _ _ _ (by simpa using hkr)]);have r2 := h1.set1 true;have u2 := w1.jv (W' := W1.setCell ⟨rb, 1, none⟩ (.bool true)) (fun k hk hkr => by rw [Below.heap_setCell _ _ _ _ (by simpa using hkr)]);have v2 := nO b1 hrb 1 (.bool true);go_wp2
                      go_end0
                      first | exact ⟨rfl, q2, _, r2, u2, v2⟩ | exact ⟨_, rfl, q2, r2, u2, v2⟩
end Go.Vc
