/-
  The walk of the reader's group (say).
-/
import Derived.Test.YtaehhpempnelhaaGreatDoorQYt
set_option maxRecDepth 100000
namespace Go.Vc
open Go Go.Proofs Go.RowKit Go.Plain Tryz
theorem av1:(prog.info? 3).map (fun i=>(i.zero,i.size,i.bytes))=some (some (.int .i64 0),1,8):=by kernel_rfl
theorem ael:(prog.info? 103).map (fun i=>(i.zero,i.size,i.bytes))=some (some (.agg #[.int .i64 0,.slice none 0 0]),2,32):=by kernel_rfl
theorem auZ:(prog.info? 127).map (fun i=>(i.zero,i.size,i.bytes))=some (some (.agg #[.int .i64 0,.int .i64 0]),2,16):=by kernel_rfl
theorem Ur(n:Int)(dv:Value)(h:dv.oneCell'=true):∀u∈[Value.int .i64 n,dv],u.oneCell'=true:=by
 intro u hu;rcases iR.1 hu with e|e
 .rw[e];rfl
 rw[sF.1 e];exact h
theorem Ol{W W2 W3:World}{lo pb rb N i:Nat}{v nv sv:Value}{b:Bool}{ws:List (List UInt8)}(b2:Below lo W W2)(hgt:W2.grownBy W3 v.ownBlock)(nA:∀g,v.ownBlock=some g->g<N/\lo<=g/\g≠pb/\g≠rb)(hpb:lo<=pb)(hpr:pb≠rb)
  (h2:gL W2 rb sv b) (w2:jI W2 lo rb sv ws) (hlo:lo<=W2.heap.size):
  gL (W3.setCell ⟨pb,i,none⟩ nv) rb sv b/\jI (W3.setCell ⟨pb,i,none⟩ nv) lo rb sv ws/\Below lo W (W3.setCell ⟨pb,i,none⟩ nv):=by
 refine⟨h2.of_heap ?_,w2.pI fun k hk hkr=>?_,A9 (b2.trans ⟨hgt.os,hgt.tape,hgt.output,hgt.size,fun j hj=>hgt.block j (by omega) (fun e=>by have:=(nA j e.symm).2.1;omega)⟩) hpb _ _⟩
 .rw[gu _ _ _ _ (by simp;omega)];exact hgt.block rb h2.lt (fun e=>(nA rb e.symm).2.2.2 rfl)
 rw[gu _ _ _ _ (by simp;omega)];exact hgt.block k (by omega) (fun e=>by have:=(nA k e.symm).2.1;omega)
theorem Kh{W W2:World}{lo pb rb i j:Nat}{a c sv:Value}{b:Bool}{ws:List (List UInt8)}{p':Pl}(_:kJ ((W2.setCell ⟨pb,i,none⟩ a).setCell ⟨pb,j,none⟩ c) lo pb rb p')(b2:Below lo W W2)(hpb:lo<=pb)(hpr:pb≠rb)(h2:gL W2 rb sv b)(w2:jI W2 lo rb sv ws):
  gL ((W2.setCell ⟨pb,i,none⟩ a).setCell ⟨pb,j,none⟩ c) rb sv b/\jI ((W2.setCell ⟨pb,i,none⟩ a).setCell ⟨pb,j,none⟩ c) lo rb sv ws/\Below lo W ((W2.setCell ⟨pb,i,none⟩ a).setCell ⟨pb,j,none⟩ c):=
 ⟨h2.of_heap (by rw[gu _ _ _ _ (by simp;omega),gu _ _ _ _ (by simp;omega)]),w2.pI (fun k hk _=>by rw[gu _ _ _ _ (by simp;omega),gu _ _ _ _ (by simp;omega)]),A9 (A9 b2 hpb i a) hpb j c⟩
theorem Lh{W W1 W2:World}{lo pb rb:Nat}{p:Pl}(p1:kJ W1 lo pb rb p)(b1:Below lo W W1)(g2:W1.grownBy W2 (some rb))(hlo:lo<=W1.heap.size)(hrb:lo<=rb):kJ W2 lo pb rb p/\Below lo W W2:=
 ⟨p1.keep g2.size (fun k hk hkr=>g2.block k hk (by simp;exact fun e=>hkr e)),b1.trans (below_grown g2 hlo hrb)⟩
set_option maxHeartbeats 8000000 in
theorem avm(W : World)(aX : KW prog W)(lo pb rb : Nat)(hlo : lo <= W.heap.size)(hkl : ∀ g, wC prog g -> g < lo)(p : Pl)(sv : Value)(wr : Bool)(ws : List (List UInt8))(hlen : ∀ w ∈ ws, w.length <= 1000000)(hp : kJ W lo pb rb p)(h : gL W rb sv wr)(hw : jI W lo rb sv ws)
    (hpl : p.maps.length <= 1000000 /\ p.jf.length <= 1000000 /\ p.jg.length <= 1000000 /\ p.jh.length <= 1000000) (G : Pl × List (List UInt8) × Bool) (hG : lS p ws wr = G) :
    Calls prog 50 #[.pointer (some ⟨rb, 0, none⟩),.pointer (some ⟨pb, 0, none⟩)] W fun e W' => ∃ p9, e =.returned (.tuple #[]) /\ kJ W' lo pb rb G.1 /\ gL W' rb p9 G.2.2 /\ jI W' lo rb p9 G.2.1 /\ Below lo W W' := by
  have hrb : lo <= rb := by obtain⟨_, _, _, _, _, _, _, _, h3, _⟩ := hp; exact h3
  have hpb : lo <= pb := by obtain⟨_, _, _, _, _, _, _, h3, _⟩ := hp; exact h3
  have hpr : pb ≠ rb := by obtain⟨_, _, _, _, _, _, _, _, _, h3, _⟩ := hp; exact h3
  have hx0 : (ws.headD []).length <= 1000000 := by cases ws with | nil => simp | cons x t => exact hlen x (by simp)
  have hx1 : (ws.tail.headD []).length <= 1000000 := by
    rcases ws with _ | ⟨x, _ | ⟨y, t⟩⟩
    . simp
    . simp
    . exact hlen y (by simp)
  have hx2 : (ws.tail.tail.headD []).length <= 1000000 := by
    rcases ws with _ | ⟨x, _ | ⟨y, _ | ⟨z, t⟩⟩⟩
    . simp
    . simp
    . simp
    . exact hlen z (by simp)
  obtain⟨w0, hw0⟩ : ∃ w0, ws.headD [] = w0 := ⟨_, rfl⟩;obtain⟨x, hx⟩ : ∃ x, ws.tail.headD [] = x := ⟨_, rfl⟩;obtain⟨y, hy⟩ : ∃ y, ws.tail.tail.headD [] = y := ⟨_, rfl⟩;simp only [lS, hw0, hx, hy]at hG;rw [hw0]at hx0;rw [hx]at hx1;rw [hy]at hx2;have e1 : (w0 == [109, 97, 114, 107, 101, 114]) = decide (w0 = lZ) := uz w0 lZ;have e2 : (w0 == [116, 121, 112, 101]) = decide (w0 = mq) := uz w0 mq;have e3 : (w0 == [115, 101, 113]) = decide (w0 = mH) := uz w0 mH;have e4 : (w0 == [116, 105, 109, 101]) = decide (w0 = mD) := uz w0 mD;have e5 : (w0 == [115, 115, 114, 99]) = decide (w0 = mE) := uz w0 mE;have e6 : (w0 == [109, 97, 112]) = decide (w0 = kC) := uz w0 kC;have e7 : (w0 == [111, 118, 101, 114]) = decide (w0 = iV) := uz w0 iV;have e8 : (w0 == [100, 114, 111, 112]) = decide (w0 = j6) := uz w0 j6;have e9 : (w0 == [97, 100, 100]) = decide (w0 = iW) := uz w0 iW;have e10 : (w0 == [110, 111, 112, 97, 100]) = decide (w0 = mg) := uz w0 mg;go_enter func50, ntmps50
  go_wp2_with (go_at_call 96; refine(aeA W lo rb hlo sv wr ws w0 hw0 h hw).mono ?_)
  rintro e W1 ⟨oG, rfl, h1, w1, g1⟩;have p1 := hp.keep g1.size (fun k hk hkr => g1.block k hk (by simp; exact fun e => hkr e));have hs1 := g1.size;have b1 := below_grown g1 hlo hrb;by_cases c1 : w0 = lZ
  . rw [aC c1]at hG
    rw [iH c1]at e1;obtain⟨von, P9⟩ : ∃ b, decide (x = yO) = b := ⟨_, rfl⟩;obtain⟨voff, PD⟩ : ∃ b, decide (x ≠ yu) = b := ⟨_, rfl⟩;have d1 : (x == [111, 110]) = von := by rw [<- P9]; exact uz x yO
    have d2 : (x != [111, 110]) = !von := by unfold bne; rw [d1]
    have d3 : (x != [111, 102, 102]) = voff := by rw [<- PD]; unfold bne; rw [show(x == [111, 102, 102]) = decide (x = yu)from uz x yu]; simp
    have d4 : (x == [111, 102, 102]) = !voff := by rw [<- PD, show(x == [111, 102, 102]) = decide (x = yu)from uz x yu]; simp
    have hno : decide (x ≠ yO) = !von := by rw [<- P9]; simp
    rw [P9, PD, hno]at hG;subst hG;clear P9 PD hno;go_wp2_with (go_at_call 96; refine(aeA W1 lo rb (by omega) oG _ ws.tail x hx h1 w1).mono ?_)
    rintro e W2 ⟨u7, rfl, h2, w2, g2⟩;obtain⟨p2, b2⟩ := Lh p1 b1 g2 (by omega) hrb;obtain⟨vm, vo, vd, va, hb2⟩ := p2.block;have Mv := fun j => iY hb2 j;have cA : W2.cell? ⟨pb, 0, none⟩ = some (.bool p.sm) := by rw [fA hb2]; rfl
    have cB : W2.cell? ⟨pb, 1, none⟩ = some (.bool p.m) := by rw [fA hb2]; rfl
    have q2 := (p2.set (p' := { p with sm := true }) 0 (.bool true) (fun _ _ _ _ => rfl) rfl rfl rfl rfl).set (p' := { p with sm := true, m := von }) 1 (.bool von) (fun _ _ _ _ => rfl) rfl rfl rfl rfl;obtain⟨r2, u2, v2⟩ := Kh q2 b2 hpb hpr h2 w2;have cR := r2.cell1;have fR := r2.frozen;have q3 := fun b => q2.keep (W' := ((W2.setCell ⟨pb, 0, none⟩ (.bool true)).setCell ⟨pb, 1, none⟩ (.bool von)).setCell ⟨rb, 1, none⟩ (.bool b)) (by simp [World.setCell]) (fun k hk hkr => by rw [gu _ _ _ _ (by simpa using hkr)]);have r3 := fun b => r2.set1 b;have u3 := fun b => u2.pI (W' := ((W2.setCell ⟨pb, 0, none⟩ (.bool true)).setCell ⟨pb, 1, none⟩ (.bool von)).setCell ⟨rb, 1, none⟩ (.bool b)) (fun k hk hkr => by rw [gu _ _ _ _ (by simpa using hkr)]);have v3 := fun b => A9 v2 hrb 1 (.bool b);cases hbw : ((wr || ws.isEmpty) || ws.tail.isEmpty)with
    | true =>
      rw [hbw]at cR;go_wp2
      go_end0
      first | exact⟨rfl, q3 true, _, r3 true, u3 true, v3 true⟩ | exact⟨_, rfl, q3 true, r3 true, u3 true, v3 true⟩
    | false =>
      rw [hbw]at cR;cases von with
      | true =>
        go_wp2
        go_end0
        first | exact⟨rfl, q3 false, _, r3 false, u3 false, v3 false⟩ | exact⟨_, rfl, q3 false, r3 false, u3 false, v3 false⟩
      | false =>
        go_wp2
        go_end0
        simp only[];exact⟨trivial, q3 _, _, r3 _, u3 _, v3 _⟩
  . rw [zq c1]at hG
    rw [gQ c1]at e1;by_cases c2 : w0 = mq
    . rw [aC c2]at hG
      rw [iH c2]at e2;subst hG;go_wp2_with (go_at_call 97; refine(Ky W1 lo rb (by omega) oG _ ws.tail x hx hx1 _ rfl h1 w1).mono ?_)
      rintro e W2 ⟨u7, rfl, h2, w2, g2⟩;obtain⟨p2, b2⟩ := Lh p1 b1 g2 (by omega) hrb;obtain⟨vm, vo, vd, va, hb2⟩ := p2.block;have Mv := fun j => iY hb2 j;have cA : W2.cell? ⟨pb, 2, none⟩ = some (.bool p.st) := by rw [fA hb2]; rfl
      have cB : W2.cell? ⟨pb, 3, none⟩ = some (.int .i64 p.ty) := by rw [fA hb2]; rfl
      have hle : (dw 255 x).1 <= 255 := EF 255 (chunks x) 0 (by omega);have q2 := (p2.set (p' := { p with st := true }) 2 (.bool true) (fun _ _ _ _ => rfl) rfl rfl rfl rfl).set (p' := { p with st := true, ty := ((dw 255 x).1 : Nat) }) 3 (.int .i64 ((dw 255 x).1 : Nat)) (fun _ _ _ _ => rfl) rfl rfl rfl rfl;obtain⟨r2, u2, v2⟩ := Kh q2 b2 hpb hpr h2 w2;have hmod : (((dw 255 x).1 : Nat) : Int) % 18446744073709551616 = ((dw 255 x).1 : Nat) := by omega
      go_wp2
      go_end0
      first | exact⟨rfl, q2, _, r2, u2, v2⟩ | exact⟨_, rfl, q2, r2, u2, v2⟩
    . rw [zq c2]at hG
      rw [gQ c2]at e2;by_cases c3 : w0 = mH
      . rw [aC c3]at hG
        rw [iH c3]at e3;subst hG;go_wp2_with (go_at_call 98; refine(M0 W1 lo rb (by omega) oG _ ws.tail 65535 (by omega) x hx hx1 _ rfl h1 w1).mono ?_)
        rintro e W2 ⟨u7, rfl, h2, w2, g2⟩;obtain⟨p2, b2⟩ := Lh p1 b1 g2 (by omega) hrb;obtain⟨vm, vo, vd, va, hb2⟩ := p2.block;have Mv := fun j => iY hb2 j;have cA : W2.cell? ⟨pb, 4, none⟩ = some (.bool p.sq) := by rw [fA hb2]; rfl
        have cB : W2.cell? ⟨pb, 5, none⟩ = some (.int .u16 p.seq) := by rw [fA hb2]; rfl
        have hle : (dw 65535 x).1 <= 65535 := EF 65535 (chunks x) 0 (by omega);have q2 := (p2.set (p' := { p with sq := true }) 4 (.bool true) (fun _ _ _ _ => rfl) rfl rfl rfl rfl).set (p' := { p with sq := true, seq := ((dw 65535 x).1 : Nat) }) 5 (.int .u16 ((dw 65535 x).1 : Nat)) (fun _ _ _ _ => rfl) rfl rfl rfl rfl;obtain⟨r2, u2, v2⟩ := Kh q2 b2 hpb hpr h2 w2;have hmod : (((dw 65535 x).1 : Nat) : Int) % 65536 = ((dw 65535 x).1 : Nat) := by omega
        go_wp2
        go_end0
        first | exact⟨rfl, q2, _, r2, u2, v2⟩ | exact⟨_, rfl, q2, r2, u2, v2⟩
      . rw [zq c3]at hG
        rw [gQ c3]at e3;by_cases c4 : w0 = mD
        . rw [aC c4]at hG
          rw [iH c4]at e4;subst hG;go_wp2_with (go_at_call 98; refine(M0 W1 lo rb (by omega) oG _ ws.tail 4294967295 (by omega) x hx hx1 _ rfl h1 w1).mono ?_)
          rintro e W2 ⟨u7, rfl, h2, w2, g2⟩;obtain⟨p2, b2⟩ := Lh p1 b1 g2 (by omega) hrb;obtain⟨vm, vo, vd, va, hb2⟩ := p2.block;have Mv := fun j => iY hb2 j;have cA : W2.cell? ⟨pb, 6, none⟩ = some (.bool p.dY) := by rw [fA hb2]; rfl
          have cB : W2.cell? ⟨pb, 7, none⟩ = some (.int .u32 p.time) := by rw [fA hb2]; rfl
          have hle : (dw 4294967295 x).1 <= 4294967295 := EF 4294967295 (chunks x) 0 (by omega);have q2 := (p2.set (p' := { p with dY := true }) 6 (.bool true) (fun _ _ _ _ => rfl) rfl rfl rfl rfl).set (p' := { p with dY := true, time := ((dw 4294967295 x).1 : Nat) }) 7 (.int .u32 ((dw 4294967295 x).1 : Nat)) (fun _ _ _ _ => rfl) rfl rfl rfl rfl;obtain⟨r2, u2, v2⟩ := Kh q2 b2 hpb hpr h2 w2;have hmod : (((dw 4294967295 x).1 : Nat) : Int) % 4294967296 = ((dw 4294967295 x).1 : Nat) := by omega
          go_wp2
          go_end0
          first | exact⟨rfl, q2, _, r2, u2, v2⟩ | exact⟨_, rfl, q2, r2, u2, v2⟩
        . rw [zq c4]at hG
          rw [gQ c4]at e4;by_cases c5 : w0 = mE
          . rw [aC c5]at hG
            rw [iH c5]at e5;subst hG;go_wp2_with (go_at_call 98; refine(M0 W1 lo rb (by omega) oG _ ws.tail 4294967295 (by omega) x hx hx1 _ rfl h1 w1).mono ?_)
            rintro e W2 ⟨u7, rfl, h2, w2, g2⟩;obtain⟨p2, b2⟩ := Lh p1 b1 g2 (by omega) hrb;obtain⟨vm, vo, vd, va, hb2⟩ := p2.block;have Mv := fun j => iY hb2 j;have cA : W2.cell? ⟨pb, 8, none⟩ = some (.bool p.ss) := by rw [fA hb2]; rfl
            have cB : W2.cell? ⟨pb, 9, none⟩ = some (.int .u32 p.bZ) := by rw [fA hb2]; rfl
            have hle : (dw 4294967295 x).1 <= 4294967295 := EF 4294967295 (chunks x) 0 (by omega);have q2 := (p2.set (p' := { p with ss := true }) 8 (.bool true) (fun _ _ _ _ => rfl) rfl rfl rfl rfl).set (p' := { p with ss := true, bZ := ((dw 4294967295 x).1 : Nat) }) 9 (.int .u32 ((dw 4294967295 x).1 : Nat)) (fun _ _ _ _ => rfl) rfl rfl rfl rfl;obtain⟨r2, u2, v2⟩ := Kh q2 b2 hpb hpr h2 w2;have hmod : (((dw 4294967295 x).1 : Nat) : Int) % 4294967296 = ((dw 4294967295 x).1 : Nat) := by omega
            go_wp2
            go_end0
            first | exact⟨rfl, q2, _, r2, u2, v2⟩ | exact⟨_, rfl, q2, r2, u2, v2⟩
          . rw [zq c5]at hG
            rw [gQ c5]at e5;by_cases c6 : w0 = kC
            . rw [aC c6]at hG
              rw [iH c6]at e6;subst hG;go_wp2_with (go_at_call 97; refine(Ky W1 lo rb (by omega) oG _ ws.tail x hx hx1 _ rfl h1 w1).mono ?_)
              rintro e W2 ⟨u7, rfl, h2, w2, g2⟩;have hs2 := g2.size;have hA : gL (W2.alloc (.cells #[.int .i64 ((dw 255 x).1 : Nat),.int .i64 0] 127)) rb u7 _ := h2.of_heap (iT W2 _ rb h2.lt);have wA : jI (W2.alloc (.cells #[.int .i64 ((dw 255 x).1 : Nat),.int .i64 0] 127)) lo rb u7 _ := w2.pI fun k hk _ => iT W2 _ k (by omega);have bA : (W2.alloc (.cells #[.int .i64 ((dw 255 x).1 : Nat),.int .i64 0] 127)).heap[W2.heap.size]? = some (.cells #[.int .i64 ((dw 255 x).1 : Nat),.int .i64 0] 127 (0, 0)) := alloc_at W2 _;have gA : W1.grownBy (W2.alloc (.cells #[.int .i64 ((dw 255 x).1 : Nat),.int .i64 0] 127)) (some rb) := xM g2 _;have sA : (W2.alloc (.cells #[.int .i64 ((dw 255 x).1 : Nat),.int .i64 0] 127)).heap.size = W2.heap.size + 1 := by simp
              have hr2 := h2.lt;go_wp2_with (go_at_call 97; refine(Ky _ lo rb (by rw [sA]; omega) u7 _ ws.tail.tail y hy hx2 _ rfl hA wA).mono ?_)
              rintro e W3 ⟨sv3, rfl, h3, w3, g3⟩;have hs3 := g3.size;have b3 : W3.heap[W2.heap.size]? = some (.cells #[.int .i64 ((dw 255 x).1 : Nat),.int .i64 0] 127 (0, 0)) := (g3.block _ (by omega) (by simp; omega)).trans bA;have g13 : W1.grownBy W3 (some rb) := jY gA g3;have f3 := fun j => iY b3 j;have c30 : W3.cell? ⟨W2.heap.size, 0, none⟩ = some (.int .i64 ((dw 255 x).1 : Nat)) := by rw [fA b3]; rfl
              have c31 : W3.cell? ⟨W2.heap.size, 1, none⟩ = some (.int .i64 0) := by rw [fA b3]; rfl
              clear bA gA hA wA;go_wp2_with fail
              obtain⟨W4, Ec⟩ : ∃ W4, W3.setCell ⟨W2.heap.size, 1, none⟩ (.int .i64 ((dw 255 y).1 : Nat)) = W4 := ⟨_, rfl⟩;have g14 : W1.grownBy W4 (some rb) := by
                rw [<- Ec];exact⟨g13.os, g13.tape, g13.output, by simpa[World.setCell]using g13.size, fun k hk hn => by rw [gu _ _ _ _ (by simp; omega)]; exact g13.block k hk hn⟩
              have hx4 : W4.heap[W2.heap.size]? = some (.cells #[.int .i64 ((dw 255 x).1 : Nat),.int .i64 ((dw 255 y).1 : Nat)] 127 (0, 0)) := by
                rw [<- Ec];simp [World.setCell, zn, b3]
              have h4 := h3.of_heap (W' := W4) (by rw [<- Ec]; exact gu _ _ _ _ (by simp; omega));have w4 := w3.pI (W' := W4) (fun k hk _ => by rw [<- Ec]; exact gu _ _ _ _ (by simp; omega));rw [Ec];clear Ec c30 c31 f3 b3 h3 w3 g13 g3;have c40 : W4.cell? ⟨W2.heap.size, 0, none⟩ = some (.int .i64 ((dw 255 x).1 : Nat)) := by rw [fA hx4]; rfl
              have c41 : W4.cell? ⟨W2.heap.size, 1, none⟩ = some (.int .i64 ((dw 255 y).1 : Nat)) := by rw [fA hx4]; rfl
              obtain⟨vm, cA0, tA, nA, kA⟩ := p1.aym h1.lt;obtain⟨cB, fB, oB, kB⟩ := kA W4 g14;have hsz1 := h1.lt;have aCg := g14.size;have IK : pb < W4.heap.size := vX _ _ cB;have aDA : W2.heap.size < W4.heap.size := vX _ _ c40;obtain⟨i0, hi0, hz0, hz1, hz2⟩ := yN auZ;have g4r := World.grownBy.refl W4 (some rb);go_region_law (first
                  | (refine step_append_lies _ (by rfl) _ _ _ (by rfl) lo 127 i0 _ 2 16 underlying25 hi0 hz0 hz1 hz2 rfl (by omega) vm p.maps.length _ (by rfl) (oB.alloc _)
                       ⟨W4.heap.size, 0, none⟩ 1 1 [.int .i64 ((dw 255 x).1 : Nat),.int .i64 ((dw 255 y).1 : Nat)] (by rfl) (by rfl) (World.news_of_block (cs := #[.int .i64 ((dw 255 x).1 : Nat),.int .i64 ((dw 255 y).1 : Nat)]) (t := 127) (fr := (0, 0)) (xB W4 _)) (Ur _ _ rfl)
                       (by omega) (by unfold maxLen; omega) (by omega) (by simp; omega) (W4.heap.size + 1) (by simp) ?_
                     intro g cap W5 hown hgrow hat hlt;have hgt : W4.grownBy W5 vm.ownBlock := jY (Am W4 _ _) ⟨hgrow.os, hgrow.tape, hgrow.output, hgrow.size, hgrow.block⟩;have cC : W5.cell? ⟨pb, 10, none⟩ = some vm := by rw [hgt.cell_far _ (vX _ _ cB) (Ne.symm tA)]; exact cB
                     have fC : W5.frozen? ⟨pb, 10, none⟩ = false := by rw [hgt.frozen_far _ (vX _ _ cB) (Ne.symm tA)]; exact fB))
              all_goals
                have q3 := kB ⟨((dw 255 x).1 : Nat), ((dw 255 y).1 : Nat)⟩ W5 g cap hgt (hat.imp id (fun e => by omega)) hown;obtain⟨r3, u3, v3⟩ := Ol (i := 10) (nv := (.slice (some ⟨g, 0, none⟩) (p.maps.length + 1) cap)) (b1.trans (below_grown g14 (zw hlo hs1) hrb)) hgt nA hpb hpr h4 w4 (by omega);clear kA kB;go_wp2
                go_end0
                first | exact⟨rfl, q3, _, r3, u3, v3⟩ | exact⟨_, rfl, q3, r3, u3, v3⟩ | exact⟨trivial, q3, _, r3, u3, v3⟩
            . rw [zq c6]at hG
              rw [gQ c6]at e6;by_cases c7 : w0 = iV
              . rw [aC c7]at hG
                rw [iH c7]at e7;subst hG;obtain⟨vo, xs, cA, tA, nA, kA⟩ := p1.ayl h1.lt;have hsz1 := h1.lt;have IK : pb < W1.heap.size := vX _ _ cA;obtain⟨i0, hi0, hz0, hz1, hz2⟩ := yN ael;have FT : KW prog W1 := aX.keep fun g hg => g1.block g (aX.lt hg) (by have := hkl g hg; simp; omega);go_wp2_with fail
                go_region_law (first
                    | (go_simp
                       go_at_call 99
                       refine(ade W1.drew FT lo rb (zw hlo hs1) oG _ ws.tail x y hx hy hx1 hx2 (fun g hg => by have := hkl g hg; omega) _ rfl h1 w1).mono ?_;rintro e W2 ⟨u7, dv, rfl, Wv, h2, w2, g2⟩;have g2' : W1.grownBy W2 (some rb) := ⟨g2.os, g2.tape, g2.output, g2.size, g2.block⟩;have hsz2 := g2'.size;have akJ : pb < W2.heap.size := nK IK hsz2;obtain⟨cB, fB, oB, kB⟩ := kA W2 g2';have LA : Rd W2 (fun b => W1.heap.size <= b) (.sl (.int .u8)) [dv] (.ls (ofBytes ((mI y).getD []))) := Wv;have V6 : dv.oneCell' = true := by obtain⟨a, cap, e1, _⟩ := id LA; simp only [kE, lC]at e1; rw [e1]; rfl)
                    | (refine step_append_lies _ (by rfl) _ _ _ (by rfl) lo 103 i0 _ 2 32 underlying26 hi0 hz0 hz1 hz2 rfl (by omega) vo p.jf.length _ (by rfl) (oB.alloc _)
                         ⟨W2.heap.size, 0, none⟩ 1 1 [.int .i64 ((dw 255 x).1 : Nat), dv] (by rfl) (by rfl) (World.news_of_block (cs := #[.int .i64 ((dw 255 x).1 : Nat), dv]) (t := 103) (fr := (0, 0)) (xB W2 _)) (Ur _ dv V6)
                         (by omega) (by unfold maxLen; omega) (by omega) (by simp; omega) (W2.heap.size + 1) (by simp) ?_
                       intro g cap W3 hown hgrow hat hlt;have hgt : W2.grownBy W3 vo.ownBlock := jY (Am W2 _ _) ⟨hgrow.os, hgrow.tape, hgrow.output, hgrow.size, hgrow.block⟩;have cC : W3.cell? ⟨pb, 11, none⟩ = some vo := by rw [hgt.cell_far _ (vX _ _ cB) (Ne.symm tA)]; exact cB
                       have fC : W3.frozen? ⟨pb, 11, none⟩ = false := by rw [hgt.frozen_far _ (vX _ _ cB) (Ne.symm tA)]; exact fB))
                all_goals
                  have q3 := kB W1.heap.size (aS _) ⟨((dw 255 x).1 : Nat), (mI y).getD []⟩ dv LA W3 g cap hgt (hat.imp id (fun e => by omega)) hown;obtain⟨r3, u3, v3⟩ := Ol (i := 11) (nv := (.slice (some ⟨g, 0, none⟩) (p.jf.length + 1) cap)) (b1.trans (below_grown g2' (zw hlo hs1) hrb)) hgt nA hpb hpr h2 w2 (by omega);try rw [Option.not_isSome]at r3
                  clear kA kB;go_wp2
                  go_end0
                  first | exact⟨rfl, q3, _, r3, u3, v3⟩ | exact⟨_, rfl, q3, r3, u3, v3⟩ | exact⟨trivial, q3, _, r3, u3, v3⟩
              . rw [zq c7]at hG
                rw [gQ c7]at e7;by_cases c8 : w0 = j6
                . rw [aC c8]at hG
                  rw [iH c8]at e8;subst hG;obtain⟨vd, cA, tA, nA, kA⟩ := p1.awY h1.lt;have hsz1 := h1.lt;obtain⟨i0, hi0, hz0, hz1, hz2⟩ := yN av1;go_wp2_with fail
                  have IK : pb < W1.heap.size := vX _ _ cA;go_region_law (first
                      | (go_simp
                         go_at_call 97
                         refine(Ky W1.drew lo rb (zw hlo hs1) oG _ ws.tail x hx hx1 _ rfl h1 w1).mono ?_;rintro e W2 ⟨u7, rfl, h2, w2, g2⟩;have g2' : W1.grownBy W2 (some rb) := ⟨g2.os, g2.tape, g2.output, g2.size, g2.block⟩;have hsz2 := g2'.size;have akJ : pb < W2.heap.size := nK IK hsz2;obtain⟨cB, fB, oB, kB⟩ := kA W2 g2')
                      | (refine step_append_lies _ (by rfl) _ _ _ (by rfl) lo 3 i0 _ 1 8 underlying27 hi0 hz0 hz1 hz2 rfl (by omega) vd p.jg.length _ (by rfl) (oB.alloc _)
                           ⟨W2.heap.size, 0, none⟩ 1 1 [.int .i64 ((dw 255 x).1 : Nat)] (by rfl) (by rfl) (World.news_of_block (cs := #[.int .i64 ((dw 255 x).1 : Nat)]) (t := 3) (fr := (0, 0)) (xB W2 _)) (by simp [Value.oneCell'])
                           (by omega) (by unfold maxLen; omega) (by omega) (by simp; omega) (W2.heap.size + 1) (by simp) ?_
                         intro g cap W3 hown hgrow hat hlt;have hgt : W2.grownBy W3 vd.ownBlock := jY (Am W2 _ _) ⟨hgrow.os, hgrow.tape, hgrow.output, hgrow.size, hgrow.block⟩;have cC : W3.cell? ⟨pb, 12, none⟩ = some vd := by rw [hgt.cell_far _ (vX _ _ cB) (Ne.symm tA)]; exact cB
                         have fC : W3.frozen? ⟨pb, 12, none⟩ = false := by rw [hgt.frozen_far _ (vX _ _ cB) (Ne.symm tA)]; exact fB))
                  all_goals
                    have q3 := kB ((dw 255 x).1 : Nat) W3 g cap hgt (hat.imp id (fun e => by omega)) hown;obtain⟨r3, u3, v3⟩ := Ol (i := 12) (nv := (.slice (some ⟨g, 0, none⟩) (p.jg.length + 1) cap)) (b1.trans (below_grown g2' (zw hlo hs1) hrb)) hgt nA hpb hpr h2 w2 (by omega);try rw [Option.not_isSome]at r3
                    clear kA kB;go_wp2
                    go_end0
                    first | exact⟨rfl, q3, _, r3, u3, v3⟩ | exact⟨_, rfl, q3, r3, u3, v3⟩ | exact⟨trivial, q3, _, r3, u3, v3⟩
                . rw [zq c8]at hG
                  rw [gQ c8]at e8;by_cases c9 : w0 = iW
                  . rw [aC c9]at hG
                    rw [iH c9]at e9;subst hG;obtain⟨va, xs, cA, tA, nA, kA⟩ := p1.ayn h1.lt;have hsz1 := h1.lt;have IK : pb < W1.heap.size := vX _ _ cA;obtain⟨i0, hi0, hz0, hz1, hz2⟩ := yN ael;have FT : KW prog W1 := aX.keep fun g hg => g1.block g (aX.lt hg) (by have := hkl g hg; simp; omega);go_wp2_with fail
                    go_region_law (first
                        | (go_simp
                           go_at_call 99
                           refine(ade W1.drew FT lo rb (zw hlo hs1) oG _ ws.tail x y hx hy hx1 hx2 (fun g hg => by have := hkl g hg; omega) _ rfl h1 w1).mono ?_;rintro e W2 ⟨u7, dv, rfl, Wv, h2, w2, g2⟩;have g2' : W1.grownBy W2 (some rb) := ⟨g2.os, g2.tape, g2.output, g2.size, g2.block⟩;have hsz2 := g2'.size;have akJ : pb < W2.heap.size := nK IK hsz2;obtain⟨cB, fB, oB, kB⟩ := kA W2 g2';have LA : Rd W2 (fun b => W1.heap.size <= b) (.sl (.int .u8)) [dv] (.ls (ofBytes ((mI y).getD []))) := Wv;have V6 : dv.oneCell' = true := by obtain⟨a, cap, e1, _⟩ := id LA; simp only [kE, lC]at e1; rw [e1]; rfl)
                        | (refine step_append_lies _ (by rfl) _ _ _ (by rfl) lo 103 i0 _ 2 32 underlying26 hi0 hz0 hz1 hz2 rfl (by omega) va p.jh.length _ (by rfl) (oB.alloc _)
                             ⟨W2.heap.size, 0, none⟩ 1 1 [.int .i64 ((dw 255 x).1 : Nat), dv] (by rfl) (by rfl) (World.news_of_block (cs := #[.int .i64 ((dw 255 x).1 : Nat), dv]) (t := 103) (fr := (0, 0)) (xB W2 _)) (Ur _ dv V6)
                             (by omega) (by unfold maxLen; omega) (by omega) (by simp; omega) (W2.heap.size + 1) (by simp) ?_
                           intro g cap W3 hown hgrow hat hlt;have hgt : W2.grownBy W3 va.ownBlock := jY (Am W2 _ _) ⟨hgrow.os, hgrow.tape, hgrow.output, hgrow.size, hgrow.block⟩;have cC : W3.cell? ⟨pb, 13, none⟩ = some va := by rw [hgt.cell_far _ (vX _ _ cB) (Ne.symm tA)]; exact cB
                           have fC : W3.frozen? ⟨pb, 13, none⟩ = false := by rw [hgt.frozen_far _ (vX _ _ cB) (Ne.symm tA)]; exact fB))
                    all_goals
                      have q3 := kB W1.heap.size (aS _) ⟨((dw 255 x).1 : Nat), (mI y).getD []⟩ dv LA W3 g cap hgt (hat.imp id (fun e => by omega)) hown;obtain⟨r3, u3, v3⟩ := Ol (i := 13) (nv := (.slice (some ⟨g, 0, none⟩) (p.jh.length + 1) cap)) (b1.trans (below_grown g2' (zw hlo hs1) hrb)) hgt nA hpb hpr h2 w2 (by omega);try rw [Option.not_isSome]at r3
                      clear kA kB;go_wp2
                      go_end0
                      first | exact⟨rfl, q3, _, r3, u3, v3⟩ | exact⟨_, rfl, q3, r3, u3, v3⟩ | exact⟨trivial, q3, _, r3, u3, v3⟩
                  . rw [zq c9]at hG
                    rw [gQ c9]at e9;by_cases c10 : w0 = mg
                    . rw [aC c10]at hG
                      rw [iH c10]at e10;subst hG;obtain⟨vm, vo, vd, va, hb2⟩ := p1.block;have Mv := fun j => iY hb2 j;have cA : W1.cell? ⟨pb, 14, none⟩ = some (.bool p.np) := by rw [fA hb2]; rfl
                      have q2 := p1.set (p' := { p with np := true }) 14 (.bool true) (fun _ _ _ _ => rfl) rfl rfl rfl rfl;have r2 := h1.of_heap (W' := W1.setCell ⟨pb, 14, none⟩ (.bool true)) (by rw [gu _ _ _ _ (by simp; omega)]);have u2 := w1.pI (W' := W1.setCell ⟨pb, 14, none⟩ (.bool true)) (fun k hk _ => by rw [gu _ _ _ _ (by simp; omega)]);have v2 := A9 b1 hpb 14 (.bool true);go_wp2
                      go_end0
                      first | exact⟨rfl, q2, _, r2, u2, v2⟩ | exact⟨_, rfl, q2, r2, u2, v2⟩
                    . rw [zq c10]at hG
                      rw [gQ c10]at e10;subst hG;have f1 := h1.frozen;have cA := h1.cell1;have q2 := p1.keep (W' := W1.setCell ⟨rb, 1, none⟩ (.bool true)) (by simp [World.setCell]) (fun k hk hkr => by rw [gu _ _ _ _ (by simpa using hkr)]);have r2 := h1.set1 true;have u2 := w1.pI (W' := W1.setCell ⟨rb, 1, none⟩ (.bool true)) (fun k hk hkr => by rw [gu _ _ _ _ (by simpa using hkr)]);have v2 := A9 b1 hrb 1 (.bool true);go_wp2
                      go_end0
                      first | exact⟨rfl, q2, _, r2, u2, v2⟩ | exact⟨_, rfl, q2, r2, u2, v2⟩
end Go.Vc
