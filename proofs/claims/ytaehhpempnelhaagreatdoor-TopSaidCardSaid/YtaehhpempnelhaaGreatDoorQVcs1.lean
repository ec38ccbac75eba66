/-
  The conditions of functions of the program, written by program (genvc.py), each with its equation.
-/
import Derived.Test.YtaehhpempnelhaaGreatDoorQBase3
import Derived.Test.YtaehhpempnelhaaGreatDoorChecked
set_option maxRecDepth 100000
namespace Go.Vc
open Go Go.Proofs Tryz
abbrev jy:List UInt8:=[0,1,2,2,3,3,3,3,4,4,4,4,4,4,4,4,5,5,5,5,5,5,5,5,5,5,5,5,5,5,5,5,6,6,6,6,6,6,6,6,6,6,6,6,6,6,6,6,6,6,6,6,6,6,6,6,6,6,6,6,6,6,6,6,7,7,7,7,7,7,7,7,7,7,7,7,7,7,7,7,7,7,7,7,7,7,7,7,7,7,7,7,7,7,7,7,7,7,7,7,7,7,7,7,7,7,7,7,7,7,7,7,7,7,7,7,7,7,7,7,7,7,7,7,7,7,7,7,8,8,8,8,8,8,8,8,8,8,8,8,8,8,8,8,8,8,8,8,8,8,8,8,8,8,8,8,8,8,8,8,8,8,8,8,8,8,8,8,8,8,8,8,8,8,8,8,8,8,8,8,8,8,8,8,8,8,8,8,8,8,8,8,8,8,8,8,8,8,8,8,8,8,8,8,8,8,8,8,8,8,8,8,8,8,8,8,8,8,8,8,8,8,8,8,8,8,8,8,8,8,8,8,8,8,8,8,8,8,8,8,8,8,8,8,8,8,8,8,8,8,8,8,8,8,8,8]
abbrev acC:FuncId:=49
def aaL:VC:=let a1:E:=aY bU (.gG au);let a0:E:=.ite a1 (aF bU (.Ah au bU)) bU;let a2:E:=bX (.zX au aU (.gG au)) .nil;let a3:VC:=.ret [((.sl .str),.bg),(ah,qG)];let a4:E:=.zW au bU;let a5:E:=bX (.zX au aU bU) .nil;(.loop [.bg,aj,.nil,aj,bf,bf,aj] (.cond a1 (.ak [] a1 (.ak [] a1 (.cond bC (.jm 0 [aB,aI,aN,aU,aR,bf,a0]) (.cond (bK a4 VZ) (.jm 0 [aB,aI,aN,aU,(.not aR),bC,a0]) (.cond aR (.jm 0 [aB,aI,aN,aU,aR,(bK a4 aBL),a0]) (.cond (bK a4 qm) (.cond (bK bU aU) a3 (.ak [] (bH aU aj) (.ak [] (aT aU bU) (.ak [] (aT bU (.gG au)) (.ak [] (aT (bG (aF (.len aN) (.len a5)) mW) dM) (.ak [] (aP (aF bU aH)) (.jm 0 [aB,aI,(.app aN a5),(aF bU aH),aR,bC,a0]))))))) (.jm 0 [aB,aI,aN,aU,aR,bC,a0]))))))) (.cond (.ite aR bn (bK aU (.gG au))) a3 (.ak [] (bH aU aj) (.ak [] (aT aU (.gG au)) (.ak [] (aT (.gG au) (.gG au)) (.ak [] (aT (bG (aF (.len aN) (.len a2)) mW) dM) (.ret [((.sl .str),(.app aN a2)),(ah,aj)]))))))))
theorem ao4:Vp prog acC [.str] aaL:=jv func49 {} []
abbrev acB:FuncId:=127
def aaK:VC:=(.ret [(.bool,(.ite (bH au qm) (bL au Pb) bf))])
theorem ao3:Vp prog acB [(.int .i32)] aaK:=jv func127 {} []
abbrev acA:FuncId:=128
def aaJ:VC:=(.cond (bL aI ayp) (.ret [(.bool,bf)]) (.ak [] (bH aB aj) (.ak [] (aT aB (.gG au)) (.ak [] (aT (.gG au) (.gG au)) (.call [] 167 [(.str,(.zX au aB (.gG au)))] [(.int .i32),ah] (.ret [(.bool,(bK aU aH))]))))))
theorem ao2:Vp prog acA [.str,ah,(.int .i32)] aaJ:=jv func128 {} []
abbrev aeI:FuncId:=185
def adk:VC:=let a0:E:=aY aI (.gG au);(.loop [bf,aj] (.cond a0 (.ak [] a0 (.ak [] a0 (.call [] 127 [((.int .i32),(.zW au aI))] [.bool] (.call [((.not aN),false)] 128 [(.str,au),(ah,aI),((.int .i32),(.zW au aI))] [.bool] (.cond (.ite (.not aN) bn aU) (.ret [(.bool,bf)]) (.jm 0 [aB,(.ite a0 (aF aI (.Ah au aI)) aI)])))))) (.ret [(.bool,bn)])))
theorem asj:Vp prog aeI [.str] adk:=jv func185 {} []
abbrev aap:FuncId:=124
def Y9:VC:=let a1:E:=eF (.gG au) aH;let a2:VC:=.ret [(.str,(.str [])),(ah,qG)];let a3:E:=aY (.gG au) dU;let a0:E:=.ite a3 bn (bL (.BM au aj) VZ);(.ak [(a3,false)] (aY aj (.gG au)) (.ak [(a0,false)] (aP a1) (.ak [(a0,false)] (bH a1 aj) (.ak [(a0,false)] (aY a1 (.gG au)) (.cond (.ite a0 bn (bL (.BM au a1) VZ)) a2 (.ak [] (aP a1) (.ak [] (aT aH a1) (.ak [] (aT a1 (.gG au)) (.call [] 162 [(.str,(.zX au aH a1))] [.str,.bool] (.call [((.not aI),false)] 102 [(.str,aB)] [.str] (.cond (.ite (.not aI) bn (.tX .neq aN au)) a2 (.ret [(.str,aB),(ah,aj)]))))))))))))
theorem ana:Vp prog aap [.str] Y9:=jv func124 {} []
abbrev K6:Sh:=.jc ah (.jc ah .je)
abbrev Vt:Sh:=.sl K6
abbrev Ig:Sh:=.sl (.jc ah (.jc ay .je))
abbrev Ih:Sh:=.jc .bool (.jc .bool (.jc .bool (.jc ah (.jc .bool (.jc eX (.jc .bool (.jc bI (.jc .bool (.jc bI (.jc Vt (.jc Ig (.jc (.sl ah) (.jc Ig (.jc .bool .je))))))))))))))
abbrev RP:FuncId:=58
def ab3:VC:=(.ret [(ah,(.hd au))])
theorem aqL:Vp prog RP [K6] ab3:=jv func58 {} []
abbrev SK:FuncId:=59
def aeb:VC:=(.ret [(ah,(aA au))])
theorem atA:Vp prog SK [K6] aeb:=jv func59 {} []
abbrev Rf:FuncId:=61
def ZQ:VC:=(.ret [(ah,au)])
theorem anY:Vp prog Rf [ah] ZQ:=jv func61 {} []
abbrev Xp:FuncId:=57
def Xm:VC:=let a0:E:=.jF aU aR bf;let a1:E:=aY aN (.len au);(.loop [bf,aj,.nil] (.cond a1 (.ak [] (bH aN aj) (.ak [] a1 (.call [] 58 [(K6,(fJ (.hd (.idx au aN)) (aA (.idx au aN)) .nil))] [ah] (.cond (.ite (.ite (aY aR aH) bn (dh aR uH)) bn (.ite bn a0 a0)) (.ret [(.bool,bf)]) (.ak [] (aP (aF aN aH)) (.jm 0 [aI,(aF aN aH),(.lQ aU aR bn)])))))) (.ret [(.bool,bn)])))
theorem alR:Vp prog Xp [Vt,(.fH 58)] Xm:=jv func57 {z8:=[(1,.fH 58)]} []
abbrev Xw:FuncId:=57
def Xr:VC:=let a0:E:=.jF aU aR bf;let a1:E:=aY aN (.len au);(.loop [bf,aj,.nil] (.cond a1 (.ak [] (bH aN aj) (.ak [] a1 (.call [] 59 [(K6,(fJ (.hd (.idx au aN)) (aA (.idx au aN)) .nil))] [ah] (.cond (.ite (.ite (aY aR aH) bn (dh aR uH)) bn (.ite bn a0 a0)) (.ret [(.bool,bf)]) (.ak [] (aP (aF aN aH)) (.jm 0 [aI,(aF aN aH),(.lQ aU aR bn)])))))) (.ret [(.bool,bn)])))
theorem alU:Vp prog Xw [Vt,(.fH 59)] Xr:=jv func57 {z8:=[(1,.fH 59)]} []
abbrev XL:FuncId:=60
def Xz:VC:=let a0:E:=.jF aU aR bf;let a1:E:=aY aN (.len au);(.loop [bf,aj,.nil] (.cond a1 (.ak [] (bH aN aj) (.ak [] a1 (.call [] 61 [(ah,(.idx au aN))] [ah] (.cond (.ite (.ite (aY aR aH) bn (dh aR uH)) bn (.ite bn a0 a0)) (.ret [(.bool,bf)]) (.ak [] (aP (aF aN aH)) (.jm 0 [aI,(aF aN aH),(.lQ aU aR bn)])))))) (.ret [(.bool,bn)])))
theorem alX:Vp prog XL [(.sl ah),(.fH 61)] Xz:=jv func60 {z8:=[(1,.fH 61)]} []
abbrev ac7:FuncId:=62
def abn:VC:=let a0:E:=.hd (.idx au aI);let a1:E:=aY aI (.len au);(.loop [bf,aj,.nil] (.cond a1 (.ak [] (bH aI aj) (.ak [] a1 (.cond (.ite (.ite (.ite (aY a0 aH) bn (dh a0 uH)) bn (.ite bn (.jF aN a0 bf) (.jF aN a0 bf))) bn (dh (.len (aA (.idx au aI))) uH)) (.ret [(.bool,bf)]) (.ak [] (aP (aF aI aH)) (.jm 0 [aB,(aF aI aH),(.lQ aN a0 bn)]))))) (.ret [(.bool,bn)])))
theorem apG:Vp prog ac7 [Ig] abn:=jv func62 {} []
abbrev X4:FuncId:=22
def XI:VC:=let a0:E:=aY aI (.len au);(.loop [bf,aj] (.cond a0 (.ak [] (bH aI aj) (.ak [] a0 (.cond (dh (.len (aA (.idx au aI))) aAU) (.ret [(.bool,bf)]) (.ak [] (aP (aF aI aH)) (.jm 0 [aB,(aF aI aH)]))))) (.ret [(.bool,(aT (.len au) Vk))])))
theorem al3:Vp prog X4 [Ig] XI:=jv func22 {} []
abbrev X3:FuncId:=8
def XH:VC:=let a1:E:=aBJ au;let a0:E:=.ite (aT (.len (.hd a1)) Vk) (aT (.len (aM a1)) Vk) bf;(.call [(a0,true)] 22 [(Ig,(aA a1))] [.bool] (.call [((.ite a0 aB bf),true)] 22 [(Ig,(cK a1))] [.bool] (.ret [(.bool,(.ite (.ite a0 aB bf) aI bf))])))
theorem al2:Vp prog X3 [Ih] XH:=jv func8 {} []
abbrev adO:FuncId:=100
def ab4:VC:=let a0:E:=aBI au;(.ret [(.bool,(.ite (dh (.len (.hd a0)) aj) bn (dh (.len (aA a0)) aj)))])
theorem aqM:Vp prog adO [Ih] ab4:=jv func100 {} []
abbrev ZC:FuncId:=51
def YO:VC:=let a3:E:=dW au;let a1:E:=dW a3;let a4:E:=gX a1;let a0:E:=dW a4;let a2:E:=.ite (dh (.len (aA a0)) aj) bn (dh (.len (aM a0)) aj);let a5:E:=gX a0;(.call [(a2,false)] 100 [(Ih,(dJ (.hd au) (aA au) (.hd a3) (aA a3) (.hd a1) (aA a1) (dJ (aM a1) (.hd a4) (aA a4) (.hd a0) (aA a0) (aM a0) (dK (.hd a5) (aA a5) (aM a5) .nil))))] [.bool] (.ret [(.bool,(.ite a2 bn aB))]))
theorem amP:Vp prog ZC [Ih] YO:=jv func51 {} []
abbrev acQ:FuncId:=19
def aaZ:VC:=let a5:E:=dW au;let a2:E:=.tl a5;let a1:E:=gX a2;let a3:E:=gX a1;let a4:E:=gX a3;let a0:E:=.ite (.ite (.ite (.ite (.ite (.ite (.ite (.ite (.ite (.ite (.not (.hd au)) (.not (aA au)) bf) (.not (.hd a5)) bf) (bK (.hd a2) aj) bf) (.not (aA a2)) bf) (bK (aM a2) aj) bf) (.not (.hd a1)) bf) (bK (aA a1) aj) bf) (.not (aM a1)) bf) (bK (.hd a3) aj) bf) (.not (aM a4)) bf;(.call [(a0,true)] 51 [(Ih,(dJ (.hd au) (aA au) (.hd a5) (.hd a2) (aA a2) (aM a2) (dJ (.hd a1) (aA a1) (aM a1) (.hd a3) (aA a3) (aM a3) (dK (.hd a4) (aA a4) (aM a4) .nil))))] [.bool] (.ret [(.bool,(.ite a0 (.not aB) bf))]))
theorem apj:Vp prog acQ [Ih] aaZ:=jv func19 {} []
abbrev Vr:Sh:=.sl (.jc ah (.jc ah .je))
abbrev Pj:Sh:=.sl (.jc ah (.jc ay .je))
abbrev Vs:Sh:=.jc .bool (.jc .bool (.jc .bool (.jc ah (.jc .bool (.jc eX (.jc .bool (.jc bI (.jc .bool (.jc bI (.jc Vr (.jc Pj (.jc (.sl ah) (.jc Pj (.jc .bool .je))))))))))))))
abbrev acN:FuncId:=63
def aaW:VC:=let a0:E:=aBP au;(.loop [aj,.nil] (.cond (aY aB (.len a0)) (.ak [] (bH aB aj) (.ak [] (aY aB (.len a0)) (.ak [] (aP (aF aB aH)) (.jm 0 [(aF aB aH),(.lQ aI (.idx a0 aB) bn)])))) (.ret [((.mp .i64 .bool),aI)])))
theorem apf:Vp prog acN [Vs] aaW:=jv func63 {} []
abbrev acO:FuncId:=21
def aaX:VC:=let a2:VC:=.ret [(.bool,bf)];let a8:E:=.ite (.not aB) bn (.not aI);let a10:E:=dW au;let a1:E:=.tl a10;let a3:E:=gX a1;let a0:E:=gX a3;let a4:E:=aM a0;let a5:E:=gX a0;let a6:E:=.jF bC (.hd (.idx (aA a0) dH)) bf;let a7:E:=.jF bC (.hd (.idx a4 iE)) bf;let a9:E:=aY dH (.len (aA a0));(.cond (.ite (.ite (.ite (.not (.hd au)) (aA au) bf) bn (.ite (.not (.hd a10)) (bL (.hd a1) aj) bf)) bn (.ite (.not (aA a1)) (bL (aM a1) aj) bf)) a2 (.cond (.ite (.ite (.ite (.ite (.not (.hd a3)) (bL (aA a3) aj) bf) bn (.ite (.not (aM a3)) (bL (.hd a0) aj) bf)) bn (aY (.hd a1) aj)) bn (dh (.hd a1) Pb)) a2 (.call [] 57 [(Vr,(aA a0)),((.fH 58),.nil)] [.bool] (.call [((.not aB),false)] 57 [(Vr,(aA a0)),((.fH 59),.nil)] [.bool] (.call [(a8,false)] 60 [((.sl ah),(.hd a5)),((.fH 61),.nil)] [.bool] (.cond (.ite a8 bn (.not aN)) a2 (.call [] 62 [(Pj,a4)] [.bool] (.call [((.not aU),false)] 62 [(Pj,(aA a5))] [.bool] (.cond (.ite (.not aU) bn (.not aR)) a2 (.call [] 63 [(Vs,(dJ (.hd au) (aA au) (.hd a10) (.hd a1) (aA a1) (aM a1) (dJ (.hd a3) (aA a3) (aM a3) (.hd a0) (aA a0) a4 (dK (.hd a5) (aA a5) (aM a5) .nil))))] [(.mp .i64 .bool)] (.loop [bf,aj] (.cond a9 (.ak [] (bH dH aj) (.ak [] a9 (.cond (.ite bn a6 a6) a2 (.ak [] (aP (aF dH aH)) (.jm 0 [bU,(aF dH aH)]))))) (.loop [bU,aj] (.cond (aY iE (.len a4)) (.ak [] (bH iE aj) (.ak [] (aY iE (.len a4)) (.cond (.ite bn a7 a7) a2 (.ak [] (aP (aF iE aH)) (.jm 1 [fP,(aF iE aH)]))))) (.ret [(.bool,bn)])))))))))))))))
theorem apg:Vp prog acO [Vs] aaX:=jv func21 {aK:=[(63,[.mp .i64 .bool])]} []
abbrev aj2:Sh:=.sl (.jc ah (.jc ay .je))
abbrev aj3:Sh:=.jc .bool (.jc .bool (.jc .bool (.jc ah (.jc .bool (.jc eX (.jc .bool (.jc bI (.jc .bool (.jc bI (.jc (.sl (.jc ah (.jc ah .je))) (.jc aj2 (.jc (.sl ah) (.jc aj2 (.jc .bool .je))))))))))))))
abbrev adK:FuncId:=20
def abZ:VC:=let a2:E:=dW au;let a1:E:=gX a2;let a4:E:=fJ (.str [109,97,114,107,101,114]) (.str [111,102,102]) .nil;let a5:E:=dK (.str [111,118,101,114]) oU nS .nil;let a6:E:=fJ (.str [109,97,114,107,101,114]) (.str [111,110]) .nil;let a7:E:=gX a1;let a0:E:=dW a7;let a3:E:=gX a0;let a8:E:=dK (.str [97,100,100]) rF Iu .nil;let a9:E:=dK (.str [109,97,112]) fP iE .nil;let a10:E:=fJ (.str [100,114,111,112]) ql .nil;let a11:E:=fJ (.str [116,121,112,101]) aN .nil;let a12:E:=fJ (.str [116,105,109,101]) aR .nil;let a13:E:=fJ (.str [115,115,114,99]) bC .nil;let a14:E:=aM a0;let a15:E:=fJ (.str [115,101,113]) aU .nil;let a16:E:=bX (.str [110,111,112,97,100]) .nil;let a17:E:=aY iE (.len (aA a0));let a18:E:=aY rZ (.len (.hd a3));let a19:E:=aY dH (.len (.hd a0));(.call [] 21 [(aj3,(dJ (.hd au) (aA au) (.hd a2) (aA a2) (aM a2) (.hd a1) (dJ (aA a1) (aM a1) (.hd a7) (aA a7) (.hd a0) (aA a0) (dK a14 (.hd a3) (aA a3) .nil))))] [.bool] (.cond (.not aB) (.ret [(.str,(.str [])),(ah,aH)]) (.cut 1 (.cond (.ite (.hd au) (aA au) bf) (.ak [] (aT (bG (.len a6) mW) dM) (.jm 0 [a6])) (.cond (.hd au) (.ak [] (aT (bG (.len a4) mW) dM) (.jm 0 [a4])) (.jm 0 [.nil]))) (.cut 1 (.cond (.hd a2) (.call [] 52 [(ah,(aA a2))] [.str] (.ak [] (aT (bG (aF (.len aI) (.len a11)) mW) dM) (.jm 0 [(.app aI a11)]))) (.jm 0 [aI])) (.cut 1 (.cond (aM a2) (.call [] 53 [(eX,(.hd a1))] [.str] (.ak [] (aT (bG (aF (.len aN) (.len a15)) mW) dM) (.jm 0 [(.app aN a15)]))) (.jm 0 [aN])) (.cut 1 (.cond (aA a1) (.call [] 54 [(bI,(aM a1))] [.str] (.ak [] (aT (bG (aF (.len aU) (.len a12)) mW) dM) (.jm 0 [(.app aU a12)]))) (.jm 0 [aU])) (.cut 1 (.cond (.hd a7) (.call [] 54 [(bI,(aA a7))] [.str] (.ak [] (aT (bG (aF (.len aR) (.len a13)) mW) dM) (.jm 0 [(.app aR a13)]))) (.jm 0 [aR])) (.loop [bC,aj] (.cond a19 (.ak [] (bH dH aj) (.ak [] a19 (.call [] 52 [(ah,(.hd (.idx (.hd a0) dH)))] [.str] (.call [] 52 [(ah,(aA (.idx (.hd a0) dH)))] [.str] (.ak [] (aT (bG (aF (.len bU) (.len a9)) mW) dM) (.ak [] (aP (aF dH aH)) (.jm 0 [(.app bU a9),(aF dH aH)]))))))) (.loop [bU,aj] (.cond a17 (.ak [] (bH iE aj) (.ak [] a17 (.call [] 52 [(ah,(.hd (.idx (aA a0) iE)))] [.str] (.call [] 55 [(ay,(aA (.idx (aA a0) iE)))] [.str] (.ak [] (aT (bG (aF (.len fP) (.len a5)) mW) dM) (.ak [] (aP (aF iE aH)) (.jm 1 [(.app fP a5),(aF iE aH)]))))))) (.loop [fP,aj] (.cond (aY nS (.len a14)) (.ak [] (bH nS aj) (.ak [] (aY nS (.len a14)) (.call [] 52 [(ah,(.idx a14 nS))] [.str] (.ak [] (aT (bG (aF (.len oU) (.len a10)) mW) dM) (.ak [] (aP (aF nS aH)) (.jm 2 [(.app oU a10),(aF nS aH)])))))) (.loop [oU,aj] (.cond a18 (.ak [] (bH rZ aj) (.ak [] a18 (.call [] 52 [(ah,(.hd (.idx (.hd a3) rZ)))] [.str] (.call [] 55 [(ay,(aA (.idx (.hd a3) rZ)))] [.str] (.ak [] (aT (bG (aF (.len ql) (.len a8)) mW) dM) (.ak [] (aP (aF rZ aH)) (.jm 3 [(.app ql a8),(aF rZ aH)]))))))) (.cut 1 (.cond (aA a3) (.ak [] (aT (bG (aF (.len ql) (.len a16)) mW) dM) (.jm 4 [(.app ql a16)])) (.jm 4 [ql])) (.call [] 56 [((.sl .str),rF),(.str,(.str [32]))] [.str] (.ret [(.str,Iu),(ah,aj)]))))))))))))))))))
theorem aqH:Vp prog adK [aj3] abZ:=jv func20 {cuts:=[5,9,11,13,15,37]} []
abbrev YE:FuncId:=52
def Yl:VC:=(.call [] 101 [(ah,au),(ah,Ls)] [.str] (.ret [(.str,aB)]))
theorem aml:Vp prog YE [ah] Yl:=jv func52 {} []
abbrev Yc:FuncId:=53
def XU:VC:=(.call [] 101 [(ah,(kK au)),(ah,Ls)] [.str] (.ret [(.str,aB)]))
theorem al9:Vp prog Yc [eX] XU:=jv func53 {} []
abbrev Yb:FuncId:=54
def XT:VC:=(.call [] 101 [(ah,(kK au)),(ah,Ls)] [.str] (.ret [(.str,aB)]))
theorem al8:Vp prog Yb [bI] XT:=jv func54 {} []
abbrev acG:FuncId:=55
def aaP:VC:=(.call [] 102 [(.str,(.jk au))] [.str] (.ret [(.str,aB)]))
theorem ao8:Vp prog acG [ay] aaP:=jv func55 {} []
abbrev aj9:Sh:=.sl (.jc ah (.jc ay .je))
abbrev akb:Sh:=.jc ah (.jc ah (.jc ay (.jc ah .je)))
abbrev Dp:Sh:=.jc .bool (.jc .bool (.jc .bool (.jc ah (.jc .bool (.jc eX (.jc .bool (.jc bI (.jc .bool (.jc bI (.jc (.sl (.jc ah (.jc ah .je))) (.jc aj9 (.jc (.sl ah) (.jc aj9 (.jc .bool .je))))))))))))))
abbrev akc:Sh:=.jc ay (.jc Dp (.jc .bool (.jc ah .je)))
abbrev X0:FuncId:=4
def XG:VC:=let a4:E:=.ite (dh (.len au) Uc) bn (dh (.gG aI) azU);let a5:E:=gX bU;let a2:E:=mP a5;let a6:E:=gX aB;let a3:E:=mP a6;let a8:E:=dW nS;let a1:E:=mP a8;let a7:E:=mP a1;let a9:E:=mP a3;let a0:E:=dJ (.hd aB) (aA aB) (aM aB) (.hd a6) (aA a6) (aM a6) (dJ (cK a6) (.hd a3) (aA a3) (aM a3) (cK a3) (.hd a9) (dK (aA a9) (aM a9) (cK a9) .nil));let a10:E:=mP a2;let a11:E:=fJ aN aU .nil;(.call [] 7 [] [.bool] (.cond (.not aR) (.ret [(.bool,bf)]) (.call [(a4,false)] 8 [(Dp,a0)] [.bool] (.cond (.ite a4 bn (.not bC)) (.ret [(.bool,bn)]) (.call [] 18 [(.str,aI)] [Dp,ah] (.call [((bL dH aj),true)] 19 [(Dp,(dJ (.hd bU) (aA bU) (aM bU) (.hd a5) (aA a5) (aM a5) (dJ (cK a5) (.hd a2) (aA a2) (aM a2) (cK a2) (.hd a10) (dK (aA a10) (aM a10) (cK a10) .nil))))] [.bool] (.cond (.ite (bL dH aj) (.not fP) bf) (.ret [(.bool,bf)]) (.call [] 20 [(Dp,a0)] [.str,ah] (.cond (bL oU aj) (.call [] 21 [(Dp,a0)] [.bool] (.ret [(.bool,(.not nS))])) (.call [] 18 [(.str,iE)] [Dp,ah] (.call [] 10 [(akc,(fJ au a0 a11))] [akb] (.call [] 10 [(akc,(fJ au (dJ (.hd nS) (aA nS) (.hd a8) (aA a8) (aM a8) (cK a8) (dJ (.hd a1) (aA a1) (aM a1) (cK a1) (.hd a7) (aA a7) (dK (aM a7) (cK a7) (p8 a7) .nil))) a11))] [akb] (.ret [(.bool,(.ite (.ite (.ite (bK ql aj) (bK (.hd rZ) (.hd rF)) bf) (bK (aA rZ) (aA rF)) bf) (.tX .eql (.jk (aM rZ)) (.jk (aM rF))) bf))])))))))))))))
theorem al1:Vp prog X0 [ay,Dp,.str,.bool,ah] XG:=jv func4 {} []
abbrev aqo:FuncId:=31
def Za:VC:=(.cond (dh (.len au) zD) (.ret [(ah,iZ),(ah,aW)]) (.cond (aY (.len au) dU) (.ret [(ah,iZ),(ah,dU)]) (.call [] 73 [(ay,au)] [.kP] (.ret [(ah,iZ),(ah,iZ)]))))
theorem anb:Vp prog aqo [ay] Za:=jv func31 {aK:=[(73,[.kP])]} []
abbrev VD:Sh:=.jc ay .je
abbrev La:Sh:=.jc (.sl bI) (.jc .bool (.jc .str .je))
abbrev akj:Sh:=.jc bI (.jc bI (.jc bI .je))
abbrev Lb:Sh:=.jc ah (.jc bI (.jc .str VD))
abbrev VE:Sh:=.sl (.jc bI (.jc (.sl (.jc ah (.jc .str .je))) .je))
abbrev akk:Sh:=.jc dG akj
abbrev Lc:Sh:=.jc bI (.jc .bool (.jc akk (.jc (.sl (.jc bI (.jc rO (.jc (.int .i32) (.jc bI akj))))) VD)))
abbrev Ld:Sh:=.jc ah (.jc bI (.jc bI (.jc (.sl (.jc eX (.jc eX .je))) (.jc (.jc eX (.jc ah (.jc rO (.jc (.sl (.jc ah (.jc ah .je))) .je)))) (.jc (.sl (.jc bI (.jc rO .je))) (.jc (.jc ah (.jc bI (.jc (.sl bI) .je))) .je))))))
abbrev tL:Sh:=.jc ah (.jc ah (.jc Lc (.jc VE (.jc La (.jc Lb (.jc Ld (.jc ah (.jc ah VD))))))))
abbrev YF:FuncId:=171
def Ym:VC:=let a0:E:=dW au;(.ret [(.bool,(.ite (.ite (.ite (.ite (bK (.hd au) aj) (.not (aA au)) bf) (.Cx akk (dS (.hd (.hd a0)) (aA (.hd a0)) (aM (.hd a0)) (cK (.hd a0)) .nil) (dS aj aj aj aj .nil)) bf) (bK (.len (aA a0)) aj) bf) (bK (.len (aM a0)) aj) bf))])
theorem amm:Vp prog YF [Lc] Ym:=jv func171 {} []
abbrev aaq:FuncId:=172
def Zc:VC:=(.ret [(.bool,(.ite (.ite (bK (.len (.hd au)) aj) (.not (aA au)) bf) (.tX .eql (aM au) (.str [])) bf))])
theorem ane:Vp prog aaq [La] Zc:=jv func172 {} []
abbrev aar:FuncId:=173
def Zd:VC:=(.ret [(.bool,(.ite (.ite (.ite (bK (.hd au) aj) (bK (aA au) aj) bf) (.tX .eql (aM au) (.str [])) bf) (bK (.len (cK au)) aj) bf))])
theorem anf:Vp prog aar [Lb] Zd:=jv func173 {} []
abbrev Zy:FuncId:=174
def YK:VC:=let a1:E:=dW au;let a0:E:=dW a1;let a2:E:=aM a0;(.ret [(.bool,(.ite (.ite (.ite (.ite (.ite (.ite (.ite (.ite (.ite (.ite (.ite (bK (.hd au) aj) (bK (aA au) aj) bf) (bK (.hd a1) aj) bf) (bK (.len (aA a1)) aj) bf) (bK (.len (aA a0)) aj) bf) (bK (.hd (.hd a0)) aj) bf) (bK (aA (.hd a0)) aj) bf) (bK (aM (.hd a0)) aj) bf) (bK (.len (cK (.hd a0))) aj) bf) (bK (.hd a2) aj) bf) (bK (aA a2) aj) bf) (bK (.len (aM a2)) aj) bf))])
theorem amL:Vp prog Zy [Ld] YK:=jv func174 {} []
abbrev acI:FuncId:=132
def aaR:VC:=let a3:E:=dW au;let a0:E:=gX a3;let a5:E:=dW (.hd a3);let a7:E:=.tl (aA a0);let a2:E:=gX a7;let a8:E:=aM a3;let a9:E:=aM a2;let a10:E:=bK (.hd au) uf;let a11:E:=bK (.hd au) aW;let a12:E:=bK (.hd au) iZ;let a13:E:=bK (.hd au) aH;let a1:E:=.ite (.ite a13 bn aB) (.ite (bK (.hd au) dU) bn (bK (.len (aA a3)) aj)) bf;let a6:E:=.ite a1 (.ite a12 bn aI) bf;let a4:E:=.ite a6 (.ite a11 bn aN) bf;(.cond (.ite (bL (.hd au) qG) (.ite (.ite (bL (aM a0) aj) bn (bL (cK a0) aj)) bn (dh (.len (p8 a0)) aj)) bf) (.ret [(.bool,bf)]) (.call [(a13,false)] 171 [(Lc,(oD (.hd (.hd a3)) (aA (.hd a3)) (dS (.hd (.hd a5)) (aA (.hd a5)) (aM (.hd a5)) (cK (.hd a5)) .nil) (aA a5) (aM a5) .nil))] [.bool] (.call [(a1,true),(a12,false)] 172 [(La,(dK (.hd a8) (aA a8) (aM a8) .nil))] [.bool] (.call [(a6,true),(a11,false)] 173 [(Lb,(dS (.hd (.hd a0)) (aA (.hd a0)) (aM (.hd a0)) (cK (.hd a0)) .nil))] [.bool] (.call [(a4,true),(a10,false)] 174 [(Ld,(dJ (.hd (aA a0)) (.hd a7) (aA a7) (aM a7) (dS (.hd (.hd a2)) (aA (.hd a2)) (aM (.hd a2)) (cK (.hd a2)) .nil) (aA a2) (bX (dK (.hd a9) (aA a9) (aM a9) .nil) .nil)))] [.bool] (.ret [(.bool,(.ite a4 (.ite a10 bn aU) bf))]))))))
theorem apa:Vp prog acI [tL] aaR:=jv func132 {} []
abbrev acH:FuncId:=133
def aaQ:VC:=let a1:E:=dW au;let a0:E:=gX a1;let a3:E:=dW (.hd a1);let a4:VC:=.ret [(ah,aj),(ah,aj),(ay,.bg),(ah,aH)];let a6:E:=.tl (aA a0);let a2:E:=gX a6;let a7:E:=aM a1;let a8:E:=aM a0;let a5:E:=.ite (bH a8 aj) (aY a8 ajO) bf;let a9:E:=gX a0;let a10:E:=aM a2;(.cond (bK (.hd au) aH) (.call [] 175 [(Lc,(oD (.hd (.hd a1)) (aA (.hd a1)) (dS (.hd (.hd a3)) (aA (.hd a3)) (aM (.hd a3)) (cK (.hd a3)) .nil) (aA a3) (aM a3) .nil))] [ay,ah] (.cond (aA (.hd a1)) (.ret [(ah,ajQ),(ah,(.len (aA a3))),(ay,aB),(ah,aI)]) (.ret [(ah,aA0),(ah,(.len (aA a3))),(ay,aB),(ah,aI)]))) (.cond (bK (.hd au) dU) (.call [] 176 [(VE,(aA a1))] [ay,ah] (.ret [(ah,aAZ),(ah,(.len (aA a1))),(ay,aB),(ah,aI)])) (.cond (bK (.hd au) iZ) (.call [] 177 [(La,(dK (.hd a7) (aA a7) (aM a7) .nil))] [ay,ah] (.ret [(ah,aAY),(ah,(.len (.hd a7))),(ay,aB),(ah,aI)])) (.cond (bK (.hd au) aW) (.call [] 178 [(Lb,(dS (.hd (.hd a0)) (aA (.hd a0)) (aM (.hd a0)) (cK (.hd a0)) .nil))] [ay,ah] (.ret [(ah,aAX),(ah,(.hd (.hd a0))),(ay,aB),(ah,aI)])) (.cond (bK (.hd au) uf) (.call [] 146 [(ah,(.hd (aA a0)))] [ah,ah,ah] (.cond (bL aN aj) (.ret [(ah,aj),(ah,aj),(ay,.bg),(ah,aN)]) (.call [] 179 [(Ld,(dJ (.hd (aA a0)) (.hd a6) (aA a6) (aM a6) (dS (.hd (.hd a2)) (aA (.hd a2)) (aM (.hd a2)) (cK (.hd a2)) .nil) (aA a2) (bX (dK (.hd a10) (aA a10) (aM a10) .nil) .nil)))] [ay,ah] (.ret [(ah,aB),(ah,aI),(ay,aU),(ah,aR)])))) (.cond (bK (.hd au) qG) (.call [(a5,true)] 111 [(ah,a8),(ah,(.hd a9))] [ah] (.cond (.ite a5 (bK aB qG) bf) (.ret [(ah,a8),(ah,(.hd a9)),(ay,(aA a9)),(ah,aj)]) a4)) a4))))))
theorem ao9:Vp prog acH [tL] aaQ:=jv func133 {} []
abbrev acJ:FuncId:=106
def aaS:VC:=let a3:E:=dW au;let a1:E:=gX a3;let a5:VC:=.ret [(ay,.bg),(ah,aH)];let a6:E:=aA au;let a4:E:=.ite (.ite (aY a6 aj) bn (dh a6 ajP)) bn (bL (iM a6 aW) aj);let a7:E:=dW (.hd a3);let a8:E:=aF aW (.len aU);let a9:E:=.tl (aA a1);let a2:E:=gX a9;let a10:E:=aM a3;let a11:E:=aM a2;let a0:E:=dJ (.hd au) a6 (oD (.hd (.hd a3)) (aA (.hd a3)) (dS (.hd (.hd a7)) (aA (.hd a7)) (aM (.hd a7)) (cK (.hd a7)) .nil) (aA a7) (aM a7) .nil) (aA a3) (dK (.hd a10) (aA a10) (aM a10) .nil) (dS (.hd (.hd a1)) (aA (.hd a1)) (aM (.hd a1)) (cK (.hd a1)) .nil) (dS (dJ (.hd (aA a1)) (.hd a9) (aA a9) (aM a9) (dS (.hd (.hd a2)) (aA (.hd a2)) (aM (.hd a2)) (cK (.hd a2)) .nil) (aA a2) (bX (dK (.hd a11) (aA a11) (aM a11) .nil) .nil)) (aM a1) (cK a1) (p8 a1) .nil);(.call [(a4,false)] 132 [(tL,a0)] [.bool] (.cond (.ite a4 bn (.not aB)) a5 (.call [] 133 [(tL,a0)] [ah,ah,ay,ah] (.cond (.ite (.ite (.ite (bL aR aj) bn (aY aN aj)) bn (dh aN BL)) bn (bL (iM (.len aU) aW) aj)) a5 (.ak [] (aP a8) (.ak [] (aP (aF a8 a6)) (.cond (dh (aF a8 a6) zD) a5 (.call [] 134 [(ah,aI),(ah,aN),(ay,aU),(ah,a6)] [ay,ah] (.ret [(ay,bC),(ah,bU)])))))))))
theorem apb:Vp prog acJ [tL] aaS:=jv func106 {} []
abbrev adL:FuncId:=68
def ab0:VC:=let a2:E:=oD aj bf (dS aj aj aj aj .nil) .bg .bg .nil;let a5:E:=dK aj aj .bg .nil;let a4:E:=dJ aj aj aj .bg (bX aj a5) .bg (bX a5 .nil);let a7:E:=dS aj aj (.str []) .bg .nil;let a9:E:=dK .bg bf (.str []) .nil;let a1:E:=dK a9 a7 a4 a5;let a8:E:=dS aj aj a2 .bg a1;let a0:VC:=.ret [(tL,a8),(ah,bU)];let a3:VC:=.ret [(tL,a8),(ah,aU)];let a10:E:=dW bC;let a11:E:=aA aB;let a12:E:=bL bU aj;let a13:E:=aM aB;let a14:E:=dW bU;let a6:E:=dW a14;let a15:E:=aA bC;let a16:E:=aM a6;(.cond (dh (.len au) zD) (.ret [(tL,a8),(ah,aW)]) (.call [] 110 [(ay,au)] [(.jc .bool (.jc ah (.jc ah (.jc ah .je)))),ay,ah,ah] (.cond (bL aU aj) a3 (.call [] 111 [(ah,a13),(ah,a11)] [ah] (.cond (bK aR aH) (.call [] 112 [(.bool,(bK a13 ajQ)),(ah,a11),(ay,aI)] [Lc,ah] (.cond a12 a0 (.ret [(tL,(dS aR aN (oD (.hd bC) a15 (dS (.hd (.hd a10)) (aA (.hd a10)) (aM (.hd a10)) (cK (.hd a10)) .nil) (aA a10) (aM a10) .nil) .bg a1)),(ah,aj)]))) (.cond (bK aR dU) (.call [] 113 [(ah,a11),(ay,aI)] [VE,ah] (.cond a12 a0 (.ret [(tL,(dS aR aN a2 bC a1)),(ah,aj)]))) (.cond (bK aR iZ) (.call [] 114 [(ah,a11),(ay,aI)] [La,ah] (.cond a12 a0 (.ret [(tL,(dJ aR aN a2 .bg (dK (.hd bC) a15 (.hd a10) .nil) a7 (bX a4 a5))),(ah,aj)]))) (.cond (bK aR aW) (.call [] 115 [(ah,a11),(ay,aI)] [Lb,ah] (.cond a12 a0 (.ret [(tL,(dJ aR aN a2 .bg a9 (dS (.hd bC) a15 (.hd a10) (aA a10) .nil) (bX a4 a5))),(ah,aj)]))) (.cond (bK aR uf) (.call [] 117 [(ah,a13),(ah,a11)] [ah] (.call [] 116 [(ah,bC),(ay,aI)] [Ld,ah] (.cond (bL dH aj) (.ret [(tL,a8),(ah,dH)]) (.ret [(tL,(dJ aR aN a2 .bg a9 a7 (bX (dJ (.hd bU) (aA bU) (.hd a14) (aA a14) (dS (.hd (.hd a6)) (aA (.hd a6)) (aM (.hd a6)) (cK (.hd a6)) .nil) (aA a6) (bX (dK (.hd a16) (aA a16) (aM a16) .nil) .nil)) a5))),(ah,aj)])))) (.call [] 77 [(ay,aI)] [ay] (.cond (bL aU aj) a3 (.ret [(tL,(dJ aR aN a2 .bg a9 a7 (dS a4 a13 a11 bC .nil))),(ah,aj)]))))))))))))
theorem aqI:Vp prog adL [ay] ab0:=jv func68 {} []
abbrev wN:Sh:=.sl (.jc bI (.jc rO .je))
abbrev Bz:Sh:=.sl (.jc eX (.jc eX .je))
abbrev nI:Sh:=.jc ah (.jc bI (.jc bI (.jc Bz (.jc (.jc eX (.jc ah (.jc rO (.jc (.sl (.jc ah (.jc ah .je))) .je)))) (.jc wN (.jc (.jc ah (.jc bI (.jc (.sl bI) .je))) .je))))))
abbrev acX:FuncId:=279
def aa6:VC:=let a1:E:=bG aW (.len au);let a2:E:=.idx au aI;let a0:E:=dS (iF (GY (.hd a2) dX)) (iF (.hd a2)) (iF (GY (aA a2) dX)) (iF (aA a2)) .nil;let a3:E:=aY aI (.len au);(.cond (.ite (bK (.len au) aj) bn (dh (.len au) ayr)) (.ret [(ay,.bg),(ah,aH)]) (.ak [] (aP a1) (.ak [] (aT aj a1) (.ak [] (aT (bG aH a1) y7) (.loop [(.rep aj aj),aj] (.cond a3 (.ak [] (bH aI aj) (.ak [] a3 (.ak [] (aT (bG (aF (.len aB) (.len a0)) aH) dM) (.ak [] (aP (aF aI aH)) (.jm 0 [(.app aB a0),(aF aI aH)]))))) (.ret [(ay,aB),(ah,aj)])))))))
theorem apr:Vp prog acX [Bz] aa6:=jv func279 {} []
abbrev abO:FuncId:=290
def Z0:VC:=let a0:E:=dS (aA (.idx au aI)) aj aj aj .nil;let a1:E:=bG dX (.len au);let a2:E:=aF (.len aB) (.len aN);let a3:E:=aY aI (.len au);(.cond (.ite (bK (.len au) aj) bn (dh (.len au) azT)) (.ret [(ay,.bg),(ah,aH)]) (.ak [] (aP a1) (.ak [] (aT aj a1) (.ak [] (aT (bG aH a1) y7) (.loop [(.rep aj aj),aj] (.cond a3 (.ak [] (bH aI aj) (.ak [] a3 (.call [] 221 [(dG,(gD (.hd (.idx au aI)))),(ah,aW)] [ay,ah] (.ak [] (aT (bG a2 aH) dM) (.ak [] (aT (bG (aF a2 (.len a0)) aH) dM) (.ak [] (aP (aF aI aH)) (.jm 0 [(.app (.app aB aN) a0),(aF aI aH)]))))))) (.ret [(ay,aB),(ah,aj)])))))))
theorem an6:Vp prog abO [wN] Z0:=jv func290 {} []
abbrev ac0:FuncId:=191
def aa9:VC:=let a0:E:=aF aI aW;let a1:E:=bX (fJ (rX aN) (.idx au a0) .nil) .nil;(.cond (.ite (dh (.len au) Kn) bn (bL (iM (.len au) dX) aj)) (.ret [(wN,.bg),(ah,aW)]) (.cond (bK (.len au) aj) (.ret [(wN,.bg),(ah,dU)]) (.loop [.nil,aj] (.cond (aY aI (.len au)) (.call [] 145 [(ay,au),(ah,aI),(ah,aW)] [dG,ah] (.ak [] (aP a0) (.ak [] (bH a0 aj) (.ak [] (aY a0 (.len au)) (.ak [] (aT (bG (aF (.len aB) (.len a1)) dX) dM) (.ak [] (aP (aF aI dX)) (.jm 0 [(.app aB a1),(aF aI dX)]))))))) (.ret [(wN,aB),(ah,aj)])))))
theorem apu:Vp prog ac0 [ay] aa9:=jv func191 {} []
abbrev Ye:FuncId:=278
def XW:VC:=(.call [] 279 [(Bz,au)] [ay,ah] (.ret [(ay,aB),(ah,aI)]))
theorem amc:Vp prog Ye [Bz] XW:=jv func278 {} []
abbrev XP:FuncId:=289
def XC:VC:=(.call [] 290 [(wN,au)] [ay,ah] (.ret [(ay,aB),(ah,aI)]))
theorem al0:Vp prog XP [wN] XC:=jv func289 {} []
abbrev X5:FuncId:=293
def XJ:VC:=(.ret [(ay,.bg),(ah,aj)])
theorem al4:Vp prog X5 [.je] XJ:=jv func293 {} []
abbrev arQ:FuncId:=179
def Z6:VC:=let a2:VC:=.ret [(ay,.bg),(ah,aH)];let a3:E:=dW au;let a1:E:=dW a3;let a4:E:=aM a1;let a0:E:=dJ (.hd au) (aA au) (.hd a3) (aA a3) (dS (.hd (.hd a1)) (aA (.hd a1)) (aM (.hd a1)) (cK (.hd a1)) .nil) (aA a1) (bX (dK (.hd a4) (aA a4) (aM a4) .nil) .nil);(.call [] 224 [(nI,a0)] [(.dB 273 Bz),.bool] (.call [((.not aI),false)] 225 [(nI,a0)] [.bool] (.cond (.ite (.not aI) bn (.not aN)) a2 (.call [] 278 [(Bz,aB)] [ay,ah] (.cond (bL aR aj) a2 (.call [] 221 [(dG,(gD (aA au))),(ah,aW)] [ay,ah] (.call [] 221 [(dG,(gD (.hd a3))),(ah,aW)] [ay,ah] (.call [] 109 [((.sl ay),(dK bC dH aU .nil))] [ay] (.ret [(ay,iE),(ah,aj)])))))))))
theorem an9:Vp prog arQ [nI] Z6:=jv func179 {aK:=[(224,[.dB 273 Bz,.bool])]} []
abbrev arR:FuncId:=179
def Z7:VC:=let a2:VC:=.ret [(ay,.bg),(ah,aH)];let a3:E:=dW au;let a1:E:=dW a3;let a4:E:=aM a1;let a0:E:=dJ (.hd au) (aA au) (.hd a3) (aA a3) (dS (.hd (.hd a1)) (aA (.hd a1)) (aM (.hd a1)) (cK (.hd a1)) .nil) (aA a1) (bX (dK (.hd a4) (aA a4) (aM a4) .nil) .nil);(.call [] 224 [(nI,a0)] [(.dB 276 wN),.bool] (.call [((.not aI),false)] 225 [(nI,a0)] [.bool] (.cond (.ite (.not aI) bn (.not aN)) a2 (.call [] 289 [(wN,aB)] [ay,ah] (.cond (bL aR aj) a2 (.call [] 221 [(dG,(gD (aA au))),(ah,aW)] [ay,ah] (.call [] 221 [(dG,(gD (.hd a3))),(ah,aW)] [ay,ah] (.call [] 109 [((.sl ay),(dK bC dH aU .nil))] [ay] (.ret [(ay,iE),(ah,aj)])))))))))
theorem aoa:Vp prog arR [nI] Z7:=jv func179 {aK:=[(224,[.dB 276 wN,.bool])]} []
abbrev arS:FuncId:=179
def Z8:VC:=let a2:VC:=.ret [(ay,.bg),(ah,aH)];let a3:E:=dW au;let a1:E:=dW a3;let a4:E:=aM a1;let a0:E:=dJ (.hd au) (aA au) (.hd a3) (aA a3) (dS (.hd (.hd a1)) (aA (.hd a1)) (aM (.hd a1)) (cK (.hd a1)) .nil) (aA a1) (bX (dK (.hd a4) (aA a4) (aM a4) .nil) .nil);(.call [] 224 [(nI,a0)] [(.dB 340 .je),.bool] (.call [((.not aI),false)] 225 [(nI,a0)] [.bool] (.cond (.ite (.not aI) bn (.not aN)) a2 (.call [] 293 [(.je,aB)] [ay,ah] (.cond (bL aR aj) a2 (.call [] 221 [(dG,(gD (aA au))),(ah,aW)] [ay,ah] (.call [] 221 [(dG,(gD (.hd a3))),(ah,aW)] [ay,ah] (.call [] 109 [((.sl ay),(dK bC dH aU .nil))] [ay] (.ret [(ay,iE),(ah,aj)])))))))))
theorem aob:Vp prog arS [nI] Z8:=jv func179 {aK:=[(224,[.dB 340 .je,.bool])]} []
abbrev asR:FuncId:=116
def abf:VC:=let a2:E:=dK aj aj .bg .nil;let a1:E:=dK (bX aj a2) .bg a2 .nil;let a0:E:=dS aj aj aj .bg a1;(.call [] 146 [(ah,au)] [ah,ah,ah] (.cond (bL aU aj) (.ret [(nI,a0),(ah,aU)]) (.cond (.ite (dh (.len aB) Bf) bn (bL (iM (.len aB) aW) aj)) (.ret [(nI,a0),(ah,aW)]) (.cond (aY (.len aB) dX) (.ret [(nI,a0),(ah,dU)]) (.ak [] (aT dX (.len aB)) (.ak [] (aT (.len aB) (.len aB)) (.call [] 147 [(ah,au),(ay,(.sub aB dX (.len aB)))] [(.dB 273 Bz),ah] (.cond (bL bC aj) (.ret [(nI,a0),(ah,bC)]) (.call [] 145 [(ay,aB),(ah,aj),(ah,aW)] [dG,ah] (.call [] 145 [(ay,aB),(ah,aW),(ah,aW)] [dG,ah] (.ret [(nI,(dS au (rX bU) (rX fP) (.ite bn aR aR) a1)),(ah,aj)])))))))))))
theorem apy:Vp prog asR [ah,ay] abf:=jv func116 {aK:=[(147,[.dB 273 Bz,.int .i64])]} []
abbrev asS:FuncId:=116
def abg:VC:=let a1:E:=dK aj aj .bg .nil;let a0:E:=dJ aj aj aj .bg (bX aj a1) .bg (bX a1 .nil);(.call [] 146 [(ah,au)] [ah,ah,ah] (.cond (bL aU aj) (.ret [(nI,a0),(ah,aU)]) (.cond (.ite (dh (.len aB) Bf) bn (bL (iM (.len aB) aW) aj)) (.ret [(nI,a0),(ah,aW)]) (.cond (aY (.len aB) dX) (.ret [(nI,a0),(ah,dU)]) (.ak [] (aT dX (.len aB)) (.ak [] (aT (.len aB) (.len aB)) (.call [] 147 [(ah,au),(ay,(.sub aB dX (.len aB)))] [(.dB 276 wN),ah] (.cond (bL bC aj) (.ret [(nI,a0),(ah,bC)]) (.call [] 145 [(ay,aB),(ah,aj),(ah,aW)] [dG,ah] (.call [] 145 [(ay,aB),(ah,aW),(ah,aW)] [dG,ah] (.ret [(nI,(dJ au (rX bU) (rX fP) .bg (bX aj a1) (.ite bn aR aR) (bX a1 .nil))),(ah,aj)])))))))))))
theorem apz:Vp prog asS [ah,ay] abg:=jv func116 {aK:=[(147,[.dB 276 wN,.int .i64])]} []
abbrev asT:FuncId:=116
def abh:VC:=let a2:E:=dK aj aj .bg .nil;let a0:E:=dS .bg (bX aj a2) .bg a2 .nil;let a1:E:=dK aj aj aj a0;(.call [] 146 [(ah,au)] [ah,ah,ah] (.cond (bL aU aj) (.ret [(nI,a1),(ah,aU)]) (.cond (.ite (dh (.len aB) Bf) bn (bL (iM (.len aB) aW) aj)) (.ret [(nI,a1),(ah,aW)]) (.cond (aY (.len aB) dX) (.ret [(nI,a1),(ah,dU)]) (.ak [] (aT dX (.len aB)) (.ak [] (aT (.len aB) (.len aB)) (.call [] 147 [(ah,au),(ay,(.sub aB dX (.len aB)))] [(.dB 340 .je),ah] (.cond (bL bC aj) (.ret [(nI,a1),(ah,bC)]) (.call [] 145 [(ay,aB),(ah,aj),(ah,aW)] [dG,ah] (.call [] 145 [(ay,aB),(ah,aW),(ah,aW)] [dG,ah] (.ret [(nI,(dK au (rX bU) (rX fP) a0)),(ah,aj)])))))))))))
theorem apA:Vp prog asT [ah,ay] abh:=jv func116 {aK:=[(147,[.dB 340 .je,.int .i64])]} []
abbrev akd:Sh:=.jc bI (.jc bI (.jc bI .je))
abbrev Pn:Sh:=.jc dG akd
abbrev Po:Sh:=.jc bI (.jc rO (.jc (.int .i32) (.jc bI akd)))
abbrev Dt:Sh:=.jc bI (.jc .bool (.jc Pn (.jc (.sl Po) (.jc ay .je))))
abbrev ZA:FuncId:=135
def YM:VC:=let a0:E:=aF aW (bG uO aB);(.ak [] (aP (bG uO aB)) (.ak [] (aP a0) (.ak [(au,true)] (aP (aF a0 Iw)) (.ret [(ah,(.ite au (aF a0 Iw) a0))]))))
theorem amN:Vp prog ZA [.bool,ah] YM:=jv func135 {} []
abbrev aat:FuncId:=217
def Zf:VC:=let a0:E:=dW au;let a1:VC:=.ret [(.bool,bf)];let a2:E:=.len (aA a0);let a3:E:=.len (aM a0);let a4:E:=aM (.idx (aA a0) aI);(.cond (.ite (dh a2 BL) bn (bL (iM a3 aW) aj)) a1 (.loop [bf,aj] (.cond (aY aI a2) (.ak [] (bH aI aj) (.ak [] (aY aI a2) (.cond (.ite (aY a4 (.int (-8388608))) bn (dh a4 avF)) a1 (.ak [] (aP (aF aI aH)) (.jm 0 [aB,(aF aI aH)]))))) (.cond (.ite (.not (aA au)) (.not (.Cx Pn (dS (.hd (.hd a0)) (aA (.hd a0)) (aM (.hd a0)) (cK (.hd a0)) .nil) (dS aj aj aj aj .nil))) bf) a1 (.call [] 135 [(.bool,(aA au)),(ah,a2)] [ah] (.ak [] (aP (aF aN a3)) (.ret [(.bool,(aT (aF aN a3) Bf))])))))))
theorem anh:Vp prog aat [Dt] Zf:=jv func217 {} []
abbrev Zu:FuncId:=1000218
def QE:VC:=(.call [] 221 [(dG,aB),(ah,aI)] [ay,ah] (.ak [] (aT (bG (aF (.len au) (.len aN)) aH) dM) (.ret [(ay,(.app au aN))])))
theorem amk:KA prog true {} [] Tryz.f218=([ay,dG,ah],QE):=by kernel_rfl
theorem amY{c0 c1:C}{args aK:List (Sh×C)}(hs:args.map (·.1)=[dG,ah])(h:QE.holds prog (fun r=>r=(ay,c1)::aK) [] (c0::args.map (·.2))):PC prog Zu ((ay,c0)::args) ((ay,c1)::aK):=PC.VY (f:=218) (by decide) func218 (by kernel_rfl) amk hs h
abbrev aas:FuncId:=175
def Ze:VC:=let a1:E:=dW au;let a0:E:=aA a1;let a2:E:=.tl (.idx a0 dH);let a3:E:=.tl (.idx a0 aU);let a4:E:=aM a1;let a5:E:=dW (.hd a1);let a6:E:=gX a3;let a7:E:=gX a2;(.call [] 217 [(Dt,(oD (.hd au) (aA au) (dS (.hd (.hd a1)) (aA (.hd a1)) (.hd a5) (aA a5) .nil) a0 a4 .nil))] [.bool] (.cond (.not aB) (.ret [(ay,.bg),(ah,aH)]) (.call [] 1000218 [(ay,.bg),(dG,(gD (.hd au))),(ah,aW)] [ay] (.cond (aA au) (.call [] 1000218 [(ay,aI),(dG,(.hd (.hd a1))),(ah,dX)] [ay] (.call [] 1000218 [(ay,aN),(dG,(gD (aA (.hd a1)))),(ah,aW)] [ay] (.call [] 1000218 [(ay,aU),(dG,(gD (.hd a5))),(ah,aW)] [ay] (.call [] 1000218 [(ay,aR),(dG,(gD (aA a5))),(ah,aW)] [ay] (.loop [bC,aj] (.cond (aY dH (.len a0)) (.ak [] (bH dH aj) (.ak [] (aY dH (.len a0)) (.call [] 1000218 [(ay,bU),(dG,(gD (.hd (.idx a0 dH)))),(ah,aW)] [ay] (.ak [] (aT (bG (aF (.len fP) (.len (bX (.hd a2) .nil))) aH) dM) (.call [] 219 [(ah,(kK (aA a2))),(ah,iZ)] [ay,ah] (.ak [] (aT (bG (aF (aF (.len fP) aH) (.len iE)) aH) dM) (.call [] 1000218 [(ay,(.app (.app fP (bX (.hd a2) .nil)) iE)),(dG,(gD (aM a2))),(ah,aW)] [ay] (.call [] 1000218 [(ay,nS),(dG,(gD (.hd a7))),(ah,aW)] [ay] (.call [] 1000218 [(ay,ql),(dG,(gD (aA a7))),(ah,aW)] [ay] (.call [] 1000218 [(ay,rZ),(dG,(gD (aM a7))),(ah,aW)] [ay] (.ak [] (aP (aF dH aH)) (.jm 0 [rF,(aF dH aH)])))))))))))) (.ak [] (aT (bG (aF (.len bU) (.len a4)) aH) dM) (.ret [(ay,(.app bU a4)),(ah,aj)])))))))) (.loop [aI,aj] (.cond (aY aU (.len a0)) (.ak [] (bH aU aj) (.ak [] (aY aU (.len a0)) (.call [] 1000218 [(ay,aN),(dG,(gD (.hd (.idx a0 aU)))),(ah,aW)] [ay] (.ak [] (aT (bG (aF (.len aR) (.len (bX (.hd a3) .nil))) aH) dM) (.call [] 219 [(ah,(kK (aA a3))),(ah,iZ)] [ay,ah] (.ak [] (aT (bG (aF (aF (.len aR) aH) (.len bC)) aH) dM) (.call [] 1000218 [(ay,(.app (.app aR (bX (.hd a3) .nil)) bC)),(dG,(gD (aM a3))),(ah,aW)] [ay] (.call [] 1000218 [(ay,dH),(dG,(gD (.hd a6))),(ah,aW)] [ay] (.call [] 1000218 [(ay,fP),(dG,(gD (aA a6))),(ah,aW)] [ay] (.call [] 1000218 [(ay,iE),(dG,(gD (aM a6))),(ah,aW)] [ay] (.ak [] (aP (aF aU aH)) (.jm 0 [oU,(aF aU aH)])))))))))))) (.ak [] (aT (bG (aF (.len aN) (.len a4)) aH) dM) (.ret [(ay,(.app aN a4)),(ah,aj)]))))))))
theorem ang:Vp prog aas [Dt] Ze:=jv func175 {grow:=[218]} []
abbrev Zz:FuncId:=136
def YL:VC:=(.call [] 145 [(ay,au),(ah,aB),(ah,aW)] [dG,ah] (.ret [(bI,(rX aI))]))
theorem amM:Vp prog Zz [ay,ah] YL:=jv func136 {} []
abbrev YG:FuncId:=137
def Yn:VC:=(.call [] 145 [(ay,au),(ah,aB),(ah,dX)] [dG,ah] (.ak [] (aP (aF aB dX)) (.call [] 136 [(ay,au),(ah,(aF aB dX))] [bI] (.ak [] (aP (aF aB vO)) (.call [] 136 [(ay,au),(ah,(aF aB vO))] [bI] (.ak [] (aP (aF aB mW)) (.call [] 136 [(ay,au),(ah,(aF aB mW))] [bI] (.ret [(Pn,(dS aI aU aR bC .nil))]))))))))
theorem amn:Vp prog YG [ay,ah] Yn:=jv func137 {} []
abbrev Y3:FuncId:=138
def Yv:VC:=let a0:E:=aF aB aW;(.ak [] (aP (aF aB uf)) (.call [] 181 [(ay,au),(ah,(aF aB uf)),(ah,iZ)] [ah,ah] (.call [] 136 [(ay,au),(ah,aB)] [bI] (.ak [] (aP a0) (.ak [] (bH a0 aj) (.ak [] (aY a0 (.len au)) (.ak [] (aP (aF aB dX)) (.call [] 136 [(ay,au),(ah,(aF aB dX))] [bI] (.ak [] (aP (aF aB vO)) (.call [] 136 [(ay,au),(ah,(aF aB vO))] [bI] (.ak [] (aP (aF aB mW)) (.call [] 136 [(ay,au),(ah,(aF aB mW))] [bI] (.ak [] (aP (aF aB Iw)) (.call [] 136 [(ay,au),(ah,(aF aB Iw))] [bI] (.ret [(Po,(dJ aU (.idx au a0) (aAS aI) aR bC bU (bX dH .nil)))])))))))))))))))
theorem amy:Vp prog Y3 [ay,ah] Yv:=jv func138 {} []
abbrev abH:FuncId:=112
def ZP:VC:=let a1:E:=dS aj aj aj aj .nil;let a0:E:=oD aj bf a1 .bg .bg .nil;let a2:E:=aT (.len aI) (.len aI);let a3:E:=.sub aI bC (.len aI);let a4:E:=.sub aI aR (.len aI);(.cond (.ite (aY aB aj) bn (dh aB BL)) (.ret [(Dt,a0),(ah,aH)]) (.cond (.ite (dh (.len aI) Bf) bn (bL (iM (.len aI) aW) aj)) (.ret [(Dt,a0),(ah,aW)]) (.call [] 135 [(.bool,au),(ah,aB)] [ah] (.cond (aY (.len aI) aN) (.ret [(Dt,a0),(ah,dU)]) (.call [] 136 [(ay,aI),(ah,aj)] [bI] (.cond au (.call [] 137 [(ay,aI),(ah,aW)] [Pn] (.ak [] (aP (aF aW Iw)) (.loop [(aF aW Iw),aj,.nil] (.cond (aY bU aB) (.call [] 138 [(ay,aI),(ah,bC)] [Po] (.ak [] (aT (bG (aF (.len dH) (.len (bX fP .nil))) akA) dM) (.ak [] (aP (aF bC uO)) (.ak [] (aP (aF bU aH)) (.jm 0 [(aF bC uO),(aF bU aH),(.app dH (bX fP .nil))]))))) (.ak [] (bH bC aj) (.ak [] (aT bC (.len aI)) (.ak [] a2 (.ak [] (aT (bG (.len a3) aH) dM) (.ret [(Dt,(oD aU au (dS (.hd aR) (aA aR) (aM aR) (cK aR) .nil) dH a3 .nil)),(ah,aj)]))))))))) (.loop [aW,aj,.nil] (.cond (aY bC aB) (.call [] 138 [(ay,aI),(ah,aR)] [Po] (.ak [] (aT (bG (aF (.len bU) (.len (bX dH .nil))) akA) dM) (.ak [] (aP (aF aR uO)) (.ak [] (aP (aF bC aH)) (.jm 0 [(aF aR uO),(aF bC aH),(.app bU (bX dH .nil))]))))) (.ak [] (bH aR aj) (.ak [] (aT aR (.len aI)) (.ak [] a2 (.ak [] (aT (bG (.len a4) aH) dM) (.ret [(Dt,(oD aU au a1 bU a4 .nil)),(ah,aj)])))))))))))))
theorem anX:Vp prog abH [.bool,ah,ay] ZP:=jv func112 {} []
abbrev zT:Sh:=.sl ay
abbrev zU:Sh:=.jc ah (.jc bI (.jc (.sl bI) .je))
abbrev tN:Sh:=.jc .bool (.jc ah (.jc ah (.jc ah .je)))
abbrev aaC:FuncId:=226
def Zo:VC:=let a0:E:=dW au;(.cond (.ite (.ite (.ite (aY (aA au) aj) bn (dh (aA au) BL)) bn (aY (.hd a0) aj)) bn (dh (.hd a0) uH)) (.ret [(.bool,bf)]) (.ret [(.bool,(.ite (.ite (bH (aA a0) aW) (aT (aA a0) af3) bf) (bK (iM (aA a0) aW) aj) bf))]))
theorem anr:Vp prog aaC [tN] Zo:=jv func226 {} []
abbrev aaB:FuncId:=180
def Zn:VC:=let a1:E:=iF (Oe O9 (aA au));let a2:E:=dW au;let a0:E:=eF (EC (aA a2) aW) aH;(.call [] 226 [(tN,(dS (.hd au) (aA au) (.hd a2) (aA a2) .nil))] [.bool] (.cond (.not aB) (.ret [(ay,.bg),(ah,aH)]) (.ak [] (aP a0) (.ret [(ay,(dS (.ite (.hd au) (KE a1 qm) a1) (iF (.hd a2)) (iF (NI a0 dX)) (iF a0) .nil)),(ah,aj)]))))
theorem anq:Vp prog aaB [tN] Zn:=jv func180 {} []
abbrev abR:FuncId:=107
def aac:VC:=let a0:E:=aF (Ka (kK (.idx au dU)) dX) (kK (.idx au iZ));let a1:E:=dS bf aj aj aj .nil;let a2:E:=bG aW (aF a0 aH);let a3:E:=aY aj (.len au);let a4:E:=.idx au aj;(.cond (aY (.len au) aW) (.ret [(tN,a1),(ah,dU)]) (.ak [] a3 (.cond (bL (G8 a4 qG) dU) (.ret [(tN,a1),(ah,iZ)]) (.ak [] a3 (.ak [] a3 (.ak [] (aY aH (.len au)) (.ak [] (aY dU (.len au)) (.ak [] (aY iZ (.len au)) (.ak [] (aP a0) (.ak [] (aP (aF a0 aH)) (.ak [] (aP a2) (.cond (dh a2 (.len au)) (.ret [(tN,a1),(ah,aW)]) (.ret [(tN,(dS (bL (Bd a4 qm) aj) (kK (Bd a4 BL)) (kK (.idx au aH)) a2 .nil)),(ah,aj)])))))))))))))
theorem aod:Vp prog abR [ay] aac:=jv func107 {} []
abbrev adR:FuncId:=184
def ab7:VC:=let a0:E:=bG (EC (aF au iZ) aW) aW;(.cond (.ite (aY au aj) bn (dh au arY)) (.ret [(ah,aj)]) (.ak [] (aP (aF au iZ)) (.ak [] (aP a0) (.ret [(ah,a0)]))))
theorem aqP:Vp prog adR [ah] ab7:=jv func184 {} []
abbrev Zx:FuncId:=108
def QF:VC:=(.ak [] (aT aW (.len au)) (.ak [] (aT (.len au) (.len au)) (.call [] 91 [(ay,(.sub au aW (.len au)))] [ah,ah] (.cond (.ite (bL aI aj) bn (bL (iM aB aW) aj)) (.ret [(ah,aj),(ah,uf)]) (.ret [(ah,aB),(ah,aj)])))))
theorem YC:Vp prog Zx [ay] QF:=jv func108 {} []
abbrev acz:FuncId:=110
def aaI:VC:=let a0:E:=dS bf aj aj aj .nil;let a2:E:=eF (.len au) aN;let a3:E:=eF (.len au) aj;let a4:E:=dW aB;let a1:E:=dS (.hd aB) (aA aB) (.hd a4) (aA a4) .nil;(.call [] 107 [(ay,au)] [tN,ah] (.cond (bL aI aj) (.ret [(tN,a0),(ay,.bg),(ah,aj),(ah,aI)]) (.cond (aY (aA a4) (.len au)) (.ret [(tN,a0),(ay,.bg),(ah,aj),(ah,aW)]) (.cond (.hd aB) (.call [] 108 [(ay,au)] [ah,ah] (.cond (bL aU aj) (.ret [(tN,a0),(ay,.bg),(ah,aj),(ah,aU)]) (.ak [] (aP a2) (.ak [] (aT aW a2) (.ak [] (aT a2 (.len au)) (.call [] 109 [(zT,(bX (.sub au aW a2) .nil))] [ay] (.ret [(tN,a1),(ay,aR),(ah,aN),(ah,aj)]))))))) (.ak [] (aP a3) (.ak [] (aT aW a3) (.ak [] (aT a3 (.len au)) (.call [] 109 [(zT,(bX (.sub au aW a3) .nil))] [ay] (.ret [(tN,a1),(ay,aN),(ah,aj),(ah,aj)])))))))))
theorem ao1:Vp prog acz [ay] aaI:=jv func110 {} []
abbrev abF:FuncId:=134
def ZO:VC:=let a0:VC:=.ret [(ay,.bg),(ah,aH)];let a1:E:=aF aW (.len aI);(.cond (.ite (.ite (aY aN aj) bn (dh aN ajP)) bn (bL (iM aN aW) aj)) a0 (.cond (.ite (bL (iM (.len aI) aW) aj) bn (dh (.len aI) aw1)) a0 (.ak [] (aP a1) (.ak [] (aP (aF a1 aN)) (.call [] 180 [(tN,(dS (dh aN aj) aB au (aF a1 aN) .nil))] [ay,ah] (.cond (bL aR aj) a0 (.call [] 109 [(zT,(fJ aU aI .nil))] [ay] (.cond (bK aN aj) (.ret [(ay,bC),(ah,aj)]) (.call [] 161 [(ay,bC),(ah,aN)] [ay,ah] (.ret [(ay,bU),(ah,dH)]))))))))))
theorem anW:Vp prog abF [ah,ah,ay,ah] ZO:=jv func134 {} []
abbrev abE:FuncId:=67
def ZN:VC:=let a0:E:=cK aR;let a1:E:=.sub aB a0 (.len aB);let a2:E:=.sub aB aj a0;(.cond (bK (.len au) aj) (.ret [(zT,.bg),(ah,dU)]) (.loop [au,.bg,aj,.nil] (.cond (dh (.len aB) aj) (.call [] 107 [(ay,aB)] [tN,ah] (.cond (bL bC aj) (.ret [(zT,.bg),(ah,bC)]) (.ak [] (aT aj a0) (.ak [] (aT a0 (.len aB)) (.ak [] (bH a0 aj) (.ak [] (aT a0 (.len aB)) (.ak [] (aT (.len aB) (.len aB)) (.cond (.hd aR) (.cond (dh (.len a1) aj) (.ret [(zT,.bg),(ah,uf)]) (.call [] 108 [(ay,a2)] [ah,ah] (.cond (bL dH aj) (.ret [(zT,.bg),(ah,dH)]) (.call [] 109 [(zT,(bX a2 .nil))] [ay] (.ak [] (aT (bG (aF (.len aU) (.len (bX fP .nil))) uO) dM) (.jm 0 [a1,aI,aN,(.app aU (bX fP .nil))])))))) (.call [] 109 [(zT,(bX a2 .nil))] [ay] (.ak [] (aT (bG (aF (.len aU) (.len (bX bU .nil))) uO) dM) (.jm 0 [a1,aI,aN,(.app aU (bX bU .nil))]))))))))))) (.ret [(zT,aU),(ah,aj)]))))
theorem anV:Vp prog abE [ay] ZN:=jv func67 {} []
abbrev aaz:FuncId:=181
def Zl:VC:=let a0:E:=eF akz (bG dX aI);let a1:E:=bH (gD a0) aj;(.call [] 145 [(ay,au),(ah,aB),(ah,aI)] [dG,ah] (.cond (bL aU aj) (.ret [(ah,aj),(ah,aU)]) (.ak [] (aP (bG dX aI)) (.ak [] (aP a0) (.ak [] a1 (.ak [] a1 (.ret [(ah,(NI (kK (Tt aN (gD a0))) (gD a0))),(ah,aj)])))))))
theorem ano:Vp prog aaz [ay,ah,ah] Zl:=jv func181 {} []
abbrev YH:FuncId:=219
def Yp:VC:=let a0:E:=eF akz (bG dX aB);let a1:E:=bH (gD a0) aj;(.cond (.ite (aY aB aH) bn (dh aB dX)) (.ret [(ay,.bg),(ah,aH)]) (.ak [] (aP (bG dX aB)) (.ak [] (aP a0) (.ak [] a1 (.ak [] a1 (.cond (bL (NI (Ka au (gD a0)) (gD a0)) au) (.ret [(ay,.bg),(ah,qG)]) (.call [] 241 [(dG,(gD au)),(ah,aB)] [ay] (.ret [(ay,aI),(ah,aj)]))))))))
theorem amq:Vp prog YH [ah,ah] Yp:=jv func219 {} []
abbrev acL:FuncId:=70
def aaU:VC:=(.cond (.ite (.ite (aY (.hd au) aj) bn (dh (.hd au) aBM)) bn (bH (aA au) af3)) (.ret [(.bool,bf)]) (.cond (.ite (dh (.hd au) aj) (aY (aA au) aw2) bf) (.ret [(.bool,bf)]) (.ret [(.bool,(aT (.len (aM au)) uH))])))
theorem apd:Vp prog acL [zU] aaU:=jv func70 {} []
abbrev acK:FuncId:=292
def aaT:VC:=let a1:E:=aF aj (.len (.ofStr (.str [82,69,77,66])));let a3:E:=aM au;let a0:E:=.len a3;let a2:E:=aF dX (bG aW a0);(.call [] 70 [(zU,(dK (.hd au) (aA au) a3 .nil))] [.bool] (.cond (.not aB) (.ret [(ay,.bg),(ah,aH)]) (.ak [] (aP (bG aW a0)) (.ak [] (aP a2) (.ak [] (aT aj a2) (.ak [] (aT (bG aH a2) y7) (.ak [] (aT (bG a1 aH) dM) (.ak [] (aT (bG (aF a1 (.len (bX (iF a0) .nil))) aH) dM) (.call [] 221 [(dG,(ahf (Tt (gD (.hd au)) FK) (gD (aA au)))),(ah,iZ)] [ay,ah] (.ak [] (aT (bG (aF (aF a1 aH) (.len aI)) aH) dM) (.loop [(.app (.app (.app (.rep aj aj) (.ofStr (.str [82,69,77,66]))) (bX (iF a0) .nil)) aI),aj] (.cond (aY aR a0) (.ak [] (bH aR aj) (.ak [] (aY aR a0) (.call [] 221 [(dG,(gD (.idx a3 aR))),(ah,aW)] [ay,ah] (.ak [] (aT (bG (aF (.len aU) (.len bC)) aH) dM) (.ak [] (aP (aF aR aH)) (.jm 0 [(.app aU bC),(aF aR aH)])))))) (.ret [(ay,aU),(ah,aj)])))))))))))))
theorem apc:Vp prog acK [zU] aaT:=jv func292 {} []
abbrev acy:FuncId:=3000233
def QZ:VC:=(.cond (bK aB aj) (.ret [(zU,(dK aj aj .bg .nil))]) (.call [] 71 [(bI,aB)] [ah] (.ak [] (aP (eF FK aI)) (.ak [] (aP (eF au (.qR au (eF FK aI)))) (.ak [] (bH (.qR au (eF FK aI)) aj) (.ret [(zU,(dK (eF au (.qR au (eF FK aI))) (awZ aB (.qR au (eF FK aI))) .bg .nil))]))))))
theorem am3:UN prog true {} [] Tryz.f233=([ah,bI],QZ):=by kernel_rfl
theorem apJ{s:Sh}{c1:C}{args:List (Sh×C)}(hs:args.map (·.1)=[ah,bI])(h:QZ.holds prog (fun r=>r=[(s,c1)]) [] (args.map (·.2))):PC prog acy args [(s,c1)]:=PC.aBB (f:=233) func233 (by kernel_rfl) am3 hs h
abbrev adM:FuncId:=192
def ab1:VC:=let a0:E:=dK aj aj .bg .nil;let a1:VC:=.ret [(zU,a0),(ah,aW)];let a2:VC:=.ret [(zU,a0),(ah,dU)];let a3:E:=kK (.idx au aW);let a4:E:=eF (.len au) dX;let a5:E:=bG aW aU;let a6:E:=bX (rX bC) .nil;(.cond (.ite (dh (.len au) Kn) bn (bL (iM (.len au) aW) aj)) a1 (.cond (aY (.len au) dX) a2 (.ak [] (aT aW (.len au)) (.cond (.tX .neq (.jk (.sub au aj aW)) (.str [82,69,77,66])) (.ret [(zU,a0),(ah,qG)]) (.ak [] (aY aW (.len au)) (.ak [] (aP a4) (.cond (aY (EC a4 aW) a3) a2 (.cond (dh (EC a4 aW) a3) a1 (.call [] 145 [(ay,au),(ah,uf),(ah,iZ)] [dG,ah] (.call [] 3000233 [(ah,(kK (CU aB FK))),(bI,(rX (NJ aB aw0)))] [zU] (.loop [aj,.nil] (.cond (aY aU a3) (.ak [] (aP a5) (.ak [] (aP (aF dX a5)) (.call [] 145 [(ay,au),(ah,(aF dX a5)),(ah,aW)] [dG,ah] (.ak [] (aT (bG (aF (.len aR) (.len a6)) aW) dM) (.ak [] (aP (aF aU aH)) (.jm 0 [(aF aU aH),(.app aR a6)])))))) (.ret [(zU,(dK (.hd aN) (aA aN) aR .nil)),(ah,aj)])))))))))))))
theorem aqJ:Vp prog adM [ay] ab1:=jv func192 {LJ:=[233]} []
abbrev YJ:FuncId:=71
def Yr:VC:=let a1:E:=.ite (bH au Uc) (CV au mW) au;let a3:E:=.ite (bH au Uc) mW aj;let a4:E:=bH a1 ajO;let a2:E:=iF (.ite a4 (CV a1 dX) a1);let a0:E:=aF (.ite a4 (aF a3 dX) a3) (kK (.BM (.str jy) a2));(.ak [(a4,true)] (aP (aF a3 dX)) (.ak [] (bH a2 aj) (.ak [] (aY a2 (.gG (.str jy))) (.ak [] (aP a0) (.ret [(ah,a0)])))))
theorem ams:Vp prog YJ [bI] Yr:=jv func71 {} []
abbrev acV:FuncId:=188
def aa4:VC:=(.ak [((dh aB au),false)] (aP (eF au aB)) (.cond (.ite (dh aB au) bn (dh aI (eF au aB))) (.ret [(ah,dU)]) (.ret [(ah,aj)])))
theorem apo:Vp prog acV [ah,ah,ah] aa4:=jv func188 {} []
abbrev adT:FuncId:=145
def ab9:VC:=let a0:E:=aF aB aI;let a1:E:=aY aR (.len (.sub au aB a0));(.cond (.ite (.ite (aY aI aH) bn (dh aI dX)) bn (aY aB aj)) (.ret [(dG,aj),(ah,aH)]) (.call [] 188 [(ah,(.len au)),(ah,aB),(ah,aI)] [ah] (.cond (bL aN aj) (.ret [(dG,aj),(ah,aN)]) (.ak [] (aP a0) (.ak [] (bH aB aj) (.ak [] (aT aB a0) (.ak [] (aT a0 (.len au)) (.loop [aj,aj] (.cond a1 (.ak [] (bH aR aj) (.ak [] a1 (.ak [] (aP (aF aR aH)) (.jm 0 [(ahf (Tt aU dX) (gD (.idx (.sub au aB a0) aR))),(aF aR aH)])))) (.ret [(dG,aU),(ah,aj)]))))))))))
theorem aqR:Vp prog adT [ay,ah,ah] ab9:=jv func145 {} []
abbrev ZI:FuncId:=241
def YT:VC:=(.ak [] (bH aB aj) (.ak [] (aT aB aB) (.ak [] (aT (bG aH aB) y7) (.ak [] (aP (eF aB aH)) (.loop [au,(eF aB aH),(.rep aB aj)] (.cond (bH aN aj) (.ak [] (bH aN aj) (.ak [] (aY aN aB) (.ak [] (aP (eF aN aH)) (.jm 0 [(CU aI dX),(eF aN aH),(.set aU aN (iF aI))])))) (.ret [(ay,aU)])))))))
theorem amU:Vp prog ZI [dG,ah] YT:=jv func241 {} []
abbrev adS:FuncId:=221
def ab8:VC:=let a0:E:=bG dX aB;let a1:E:=aY aB dX;(.cond (.ite (aY aB aH) bn (dh aB dX)) (.ret [(ay,.bg),(ah,aH)]) (.ak [(a1,true)] (aP a0) (.ak [(a1,true)] (bH (gD a0) aj) (.cond (.ite a1 (bL (CU au (gD a0)) aj) bf) (.ret [(ay,.bg),(ah,qG)]) (.call [] 241 [(dG,au),(ah,aB)] [ay] (.ret [(ay,aI),(ah,aj)]))))))
theorem aqQ:Vp prog adS [dG,ah] ab8:=jv func221 {} []
abbrev acW:FuncId:=109
def aa5:VC:=let a0:E:=aF aB (.len (.idx au aI));let a1:E:=aY aU (.len au);let a2:E:=aY aI (.len au);(.loop [aj,aj] (.cond a2 (.ak [] (bH aI aj) (.ak [] a2 (.ak [] (aP a0) (.ak [] (aP (aF aI aH)) (.jm 0 [a0,(aF aI aH)]))))) (.ak [] (aT aj aB) (.ak [] (aT (bG aH aB) y7) (.loop [(.rep aj aj),aj] (.cond a1 (.ak [] (bH aU aj) (.ak [] a1 (.ak [] (aT (bG (aF (.len aN) (.len (.idx au aU))) aH) dM) (.ak [] (aP (aF aU aH)) (.jm 1 [(.app aN (.idx au aU)),(aF aU aH)]))))) (.ret [(ay,aN)])))))))
theorem apq:Vp prog acW [(.sl ay)] aa5:=jv func109 {} []
abbrev Pt:Sh:=.sl (.jc bI (.jc rO .je))
abbrev Pv:Sh:=.sl (.jc eX (.jc eX .je))
abbrev VB:Sh:=.jc ah (.jc bI (.jc (.sl bI) .je))
abbrev BA:Sh:=.jc VB .je
abbrev Pw:Sh:=.jc eX (.jc ah (.jc rO (.jc (.sl (.jc ah (.jc ah .je))) .je)))
abbrev Dv:Sh:=.jc Pw .je
abbrev qO:Sh:=.jc ah (.jc bI (.jc bI (.jc Pv (.jc Pw (.jc Pt BA)))))
abbrev Gw:FuncId:=224
def Gp:VC:=let a0:E:=mP au;let a1:E:=aM a0;(.cond (bK (.hd au) aH) (.ret [((.dB 273 Pv),(cK au)),(.bool,bn)]) (.cond (bK (.hd au) dU) (.ret [((.dB 275 Dv),(bX (dS (.hd (.hd a0)) (aA (.hd a0)) (aM (.hd a0)) (cK (.hd a0)) .nil) .nil)),(.bool,bn)]) (.cond (bK (.hd au) iZ) (.ret [((.dB 340 .je),.nil),(.bool,bn)]) (.cond (bK (.hd au) aW) (.ret [((.dB 276 Pt),(aA a0)),(.bool,bn)]) (.cond (bK (.hd au) uf) (.ret [((.dB 278 BA),(bX (dK (.hd a1) (aA a1) (aM a1) .nil) .nil)),(.bool,bn)]) (.ret [((.dB 340 .je),.nil),(.bool,bf)]))))))
theorem JE:Vp prog Gw [qO] Gp:=jv func224 {} []
abbrev ac1:FuncId:=225
def abb:VC:=let a0:E:=mP au;let a1:VC:=.ret [(.bool,bf)];let a2:E:=aM a0;(.cond (.ite (bL (.hd au) aH) (dh (.len (cK au)) aj) bf) a1 (.cond (.ite (bL (.hd au) dU) (.ite (.ite (.ite (bL (.hd (.hd a0)) aj) bn (bL (aA (.hd a0)) aj)) bn (bL (aM (.hd a0)) aj)) bn (dh (.len (cK (.hd a0))) aj)) bf) a1 (.cond (.ite (bL (.hd au) aW) (dh (.len (aA a0)) aj) bf) a1 (.ret [(.bool,(.ite (bK (.hd au) uf) bn (.ite (.ite (bK (.hd a2) aj) (bK (aA a2) aj) bf) (bK (.len (aM a2)) aj) bf)))]))))
theorem apv:Vp prog ac1 [qO] abb:=jv func225 {} []
abbrev Gx:FuncId:=147
def Gq:VC:=let a0:E:=dW aI;(.cond (bK au aH) (.call [] 189 [(ay,aB)] [Pv,ah] (.ret [((.dB 273 Pv),aI),(ah,aN)])) (.cond (bK au dU) (.call [] 190 [(ay,aB)] [Pw,ah] (.ret [((.dB 275 Dv),(bX (dS (.hd aI) (aA aI) (.hd a0) (aA a0) .nil) .nil)),(ah,aN)])) (.cond (bK au aW) (.call [] 191 [(ay,aB)] [Pt,ah] (.ret [((.dB 276 Pt),aI),(ah,aN)])) (.cond (bK au uf) (.call [] 192 [(ay,aB)] [VB,ah] (.ret [((.dB 278 BA),(bX (dK (.hd aI) (aA aI) (.hd a0) .nil) .nil)),(ah,aN)])) (.cond (dh (.len aB) aj) (.ret [((.dB 340 .je),.nil),(ah,aW)]) (.ret [((.dB 340 .je),.nil),(ah,aj)]))))))
theorem JF:Vp prog Gx [ah,ay] Gq:=jv func147 {} []
abbrev XO:FuncId:=280
def XB:VC:=let a0:E:=.tl (.hd au);(.call [] 281 [(Pw,(dS (.hd (.hd au)) (.hd a0) (aA a0) (aM a0) .nil))] [ay,ah] (.ret [(ay,aB),(ah,aI)]))
theorem alZ:Vp prog XO [Dv] XB:=jv func280 {} []
abbrev Yk:FuncId:=291
def X8:VC:=(.call [] 292 [(VB,(dK (.hd (.hd au)) (aA (.hd au)) (aM (.hd au)) .nil))] [ay,ah] (.ret [(ay,aB),(ah,aI)]))
theorem amh:Vp prog Yk [BA] X8:=jv func291 {} []
abbrev abP:FuncId:=179
def Z4:VC:=let a2:VC:=.ret [(ay,.bg),(ah,aH)];let a3:E:=dW au;let a1:E:=dW a3;let a4:E:=aM a1;let a0:E:=dJ (.hd au) (aA au) (.hd a3) (aA a3) (dS (.hd (.hd a1)) (aA (.hd a1)) (aM (.hd a1)) (cK (.hd a1)) .nil) (aA a1) (bX (dK (.hd a4) (aA a4) (aM a4) .nil) .nil);(.call [] 224 [(qO,a0)] [(.dB 275 Dv),.bool] (.call [((.not aI),false)] 225 [(qO,a0)] [.bool] (.cond (.ite (.not aI) bn (.not aN)) a2 (.call [] 280 [(Dv,aB)] [ay,ah] (.cond (bL aR aj) a2 (.call [] 221 [(dG,(gD (aA au))),(ah,aW)] [ay,ah] (.call [] 221 [(dG,(gD (.hd a3))),(ah,aW)] [ay,ah] (.call [] 109 [((.sl ay),(dK bC dH aU .nil))] [ay] (.ret [(ay,iE),(ah,aj)])))))))))
theorem an7:Vp prog abP [qO] Z4:=jv func179 {aK:=[(224,[.dB 275 Dv,.bool])]} []
abbrev arP:FuncId:=179
def Z5:VC:=let a2:VC:=.ret [(ay,.bg),(ah,aH)];let a3:E:=dW au;let a1:E:=dW a3;let a4:E:=aM a1;let a0:E:=dJ (.hd au) (aA au) (.hd a3) (aA a3) (dS (.hd (.hd a1)) (aA (.hd a1)) (aM (.hd a1)) (cK (.hd a1)) .nil) (aA a1) (bX (dK (.hd a4) (aA a4) (aM a4) .nil) .nil);(.call [] 224 [(qO,a0)] [(.dB 278 BA),.bool] (.call [((.not aI),false)] 225 [(qO,a0)] [.bool] (.cond (.ite (.not aI) bn (.not aN)) a2 (.call [] 291 [(BA,aB)] [ay,ah] (.cond (bL aR aj) a2 (.call [] 221 [(dG,(gD (aA au))),(ah,aW)] [ay,ah] (.call [] 221 [(dG,(gD (.hd a3))),(ah,aW)] [ay,ah] (.call [] 109 [((.sl ay),(dK bC dH aU .nil))] [ay] (.ret [(ay,iE),(ah,aj)])))))))))
theorem an8:Vp prog arP [qO] Z5:=jv func179 {aK:=[(224,[.dB 278 BA,.bool])]} []
abbrev ac2:FuncId:=116
def abd:VC:=let a1:E:=.hd (.ite bn aR aR);let a2:E:=dK aj aj .bg .nil;let a0:E:=dJ aj aj aj .bg (bX aj a2) .bg (bX a2 .nil);(.call [] 146 [(ah,au)] [ah,ah,ah] (.cond (bL aU aj) (.ret [(qO,a0),(ah,aU)]) (.cond (.ite (dh (.len aB) Bf) bn (bL (iM (.len aB) aW) aj)) (.ret [(qO,a0),(ah,aW)]) (.cond (aY (.len aB) dX) (.ret [(qO,a0),(ah,dU)]) (.ak [] (aT dX (.len aB)) (.ak [] (aT (.len aB) (.len aB)) (.call [] 147 [(ah,au),(ay,(.sub aB dX (.len aB)))] [(.dB 275 Dv),ah] (.cond (bL bC aj) (.ret [(qO,a0),(ah,bC)]) (.call [] 145 [(ay,aB),(ah,aj),(ah,aW)] [dG,ah] (.call [] 145 [(ay,aB),(ah,aW),(ah,aW)] [dG,ah] (.ret [(qO,(dJ au (rX bU) (rX fP) .bg (dS (.hd a1) (aA a1) (aM a1) (cK a1) .nil) .bg (bX a2 .nil))),(ah,aj)])))))))))))
theorem apw:Vp prog ac2 [ah,ay] abd:=jv func116 {aK:=[(147,[.dB 275 Dv,.int .i64])]} []
abbrev asQ:FuncId:=116
def abe:VC:=let a1:E:=dK aj aj .bg .nil;let a0:E:=dJ aj aj aj .bg (bX aj a1) .bg (bX a1 .nil);let a2:E:=.hd (.ite bn aR aR);(.call [] 146 [(ah,au)] [ah,ah,ah] (.cond (bL aU aj) (.ret [(qO,a0),(ah,aU)]) (.cond (.ite (dh (.len aB) Bf) bn (bL (iM (.len aB) aW) aj)) (.ret [(qO,a0),(ah,aW)]) (.cond (aY (.len aB) dX) (.ret [(qO,a0),(ah,dU)]) (.ak [] (aT dX (.len aB)) (.ak [] (aT (.len aB) (.len aB)) (.call [] 147 [(ah,au),(ay,(.sub aB dX (.len aB)))] [(.dB 278 BA),ah] (.cond (bL bC aj) (.ret [(qO,a0),(ah,bC)]) (.call [] 145 [(ay,aB),(ah,aj),(ah,aW)] [dG,ah] (.call [] 145 [(ay,aB),(ah,aW),(ah,aW)] [dG,ah] (.ret [(qO,(dJ au (rX bU) (rX fP) .bg (bX aj a1) .bg (bX (dK (.hd a2) (aA a2) (aM a2) .nil) .nil))),(ah,aj)])))))))))))
theorem apx:Vp prog asQ [ah,ay] abe:=jv func116 {aK:=[(147,[.dB 278 BA,.int .i64])]} []
abbrev Vz:Sh:=.jc ay .je
abbrev ake:Sh:=.jc ah Vz
abbrev akf:Sh:=.sl (.jc ah (.jc ah .je))
abbrev akg:Sh:=.sl ake
abbrev Pq:Sh:=.jc (.sl bI) (.jc .bool (.jc .str .je))
abbrev akh:Sh:=.jc bI (.jc bI (.jc bI .je))
abbrev aki:Sh:=.jc .bool (.jc .bool (.jc .bool (.jc ah (.jc .bool (.jc eX (.jc .bool (.jc bI (.jc .bool (.jc bI (.jc akf (.jc akg (.jc (.sl ah) (.jc akg (.jc .bool .je))))))))))))))
abbrev VA:Sh:=.jc ah (.jc ah (.jc (.jc bI (.jc .bool (.jc (.jc dG akh) (.jc (.sl (.jc bI (.jc rO (.jc (.int .i32) (.jc bI akh))))) Vz)))) (.jc (.sl (.jc bI (.jc (.sl (.jc ah (.jc .str .je))) .je))) (.jc Pq (.jc (.jc ah (.jc bI (.jc .str Vz))) (.jc (.jc ah (.jc bI (.jc bI (.jc (.sl (.jc eX (.jc eX .je))) (.jc (.jc eX (.jc ah (.jc rO (.jc akf .je)))) (.jc (.sl (.jc bI (.jc rO .je))) (.jc (.jc ah (.jc bI (.jc (.sl bI) .je))) .je))))))) (.jc ah ake)))))))
abbrev uJ:Sh:=.sl VA
abbrev ZG:FuncId:=222
def YR:VC:=let a1:E:=aM au;let a0:E:=.ite (dh (.len (.hd au)) BL) bn (dh (.gG a1) uH);(.call [(a0,false)] 185 [(.str,a1)] [.bool] (.cond (.ite a0 bn (.not aB)) (.ret [(.bool,bf)]) (.ret [(.bool,(.ite (aA au) bn (.tX .eql a1 (.str []))))])))
theorem amS:Vp prog ZG [Pq] YR:=jv func222 {} []
abbrev ZE:FuncId:=177
def YP:VC:=let a0:E:=aM au;let a1:VC:=.ret [(ay,aU),(ah,aj)];let a2:E:=aY aN (.len (.hd au));let a3:E:=bX (iF (.gG a0)) .nil;(.call [] 222 [(Pq,(dK (.hd au) (aA au) a0 .nil))] [.bool] (.cond (.not aB) (.ret [(ay,.bg),(ah,aH)]) (.loop [.nil,aj] (.cond a2 (.ak [] (bH aN aj) (.ak [] a2 (.call [] 221 [(dG,(gD (.idx (.hd au) aN))),(ah,aW)] [ay,ah] (.ak [] (aT (bG (aF (.len aI) (.len aU)) aH) dM) (.ak [] (aP (aF aN aH)) (.jm 0 [(.app aI aU),(aF aN aH)])))))) (.cond (aA au) (.ak [] (aT (bG (aF (.len aI) (.len a3)) aH) dM) (.ak [] (aT (bG (aF (aF (.len aI) aH) (.len (.ofStr a0))) aH) dM) (.call [] 206 [(ay,(.app (.app aI a3) (.ofStr a0)))] [ay] a1))) (.call [] 206 [(ay,aI)] [ay] a1))))))
theorem amQ:Vp prog ZE [Pq] YP:=jv func177 {} []
abbrev Y4:FuncId:=141
def Yw:VC:=(.ret [(.bool,(.ite (dh (.len au) Bf) bn (bL (iM (.len au) aW) aj)))])
theorem amA:Vp prog Y4 [ay] Yw:=jv func141 {} []
abbrev ZK:FuncId:=66
def YV:VC:=let a3:VC:=.ret [(ay,.bg),(ah,aH)];let a5:E:=aF (.len aU) (.len bC);let a6:E:=.idx au aR;let a0:E:=dW a6;let a2:E:=gX a0;let a4:E:=dW (.hd a0);let a8:E:=.tl (aA a2);let a1:E:=dW a8;let a7:E:=cK a1;let a9:E:=.tl (aA a1);let a10:E:=aM a0;let a11:E:=eF (.len au) aH;let a12:E:=aY aR (.len au);let a13:E:=bK (.len au) aj;(.ak [(a13,false),((.not aB),true)] (aY aj (.len au)) (.cond (.ite a13 bn (.ite (.not aB) (bL (.hd (.idx au aj)) aH) bf)) a3 (.loop [.bg,aj,.nil,aj] (.cond a12 (.ak [] (bH aR aj) (.ak [] a12 (.ak [] (aP a11) (.cond (.ite (aY aR a11) (bL (aA a6) aj) bf) a3 (.call [] 106 [(VA,(dJ (.hd a6) (aA a6) (oD (.hd (.hd a0)) (aA (.hd a0)) (dS (.hd (.hd a4)) (aA (.hd a4)) (aM (.hd a4)) (cK (.hd a4)) .nil) (aA a4) (aM a4) .nil) (aA a0) (dK (.hd a10) (aA a10) (aM a10) .nil) (dS (.hd (.hd a2)) (aA (.hd a2)) (aM (.hd a2)) (cK (.hd a2)) .nil) (dS (dJ (.hd (aA a2)) (.hd a8) (aA a8) (.hd a1) (dS (.hd (aA a1)) (.hd a9) (aA a9) (aM a9) .nil) (aM a1) (bX (dK (.hd a7) (aA a7) (aM a7) .nil) .nil)) (aM a2) (cK a2) (p8 a2) .nil)))] [ay,ah] (.ak [((bL bU aj),false)] (aP a5) (.cond (.ite (bL bU aj) bn (dh a5 zD)) a3 (.ak [] (aT (bG a5 aH) dM) (.ak [] (aP (aF aR aH)) (.jm 0 [aI,aN,(.app aU bC),(aF aR aH)])))))))))) (.ret [(ay,aU),(ah,aj)])))))
theorem amW:Vp prog ZK [uJ,.bool] YV:=jv func66 {} []
abbrev Y6:FuncId:=25
def Yy:VC:=(.call [] 66 [(uJ,au),(.bool,aB)] [ay,ah] (.cond (bL aU aj) (.ret [(ay,.bg),(ah,aU)]) (.cond (dh (.len aN) aI) (.ret [(ay,.bg),(ah,D8)]) (.ret [(ay,aN),(ah,aj)]))))
theorem amC:Vp prog Y6 [uJ,.bool,ah] Yy:=jv func25 {} []
abbrev Y7:FuncId:=69
def Yz:VC:=(.call [] 66 [(uJ,au),(.bool,aB)] [ay,ah] (.ret [(.bool,(bK aN aj))]))
theorem amD:Vp prog Y7 [uJ,.bool] Yz:=jv func69 {} []
abbrev ZL:FuncId:=26
def YW:VC:=let a1:VC:=.ret [(uJ,.bg),(ah,aW)];let a4:E:=dW dH;let a2:E:=gX a4;let a5:E:=dW (.hd a4);let a6:E:=.tl (aA a2);let a3:E:=gX a6;let a7:E:=aM a4;let a8:E:=aM a3;let a0:E:=bX (dJ (.hd dH) (aA dH) (oD (.hd (.hd a4)) (aA (.hd a4)) (dS (.hd (.hd a5)) (aA (.hd a5)) (aM (.hd a5)) (cK (.hd a5)) .nil) (aA a5) (aM a5) .nil) (aA a4) (dK (.hd a7) (aA a7) (aM a7) .nil) (dS (.hd (.hd a2)) (aA (.hd a2)) (aM (.hd a2)) (cK (.hd a2)) .nil) (dS (dJ (.hd (aA a2)) (.hd a6) (aA a6) (aM a6) (dS (.hd (.hd a3)) (aA (.hd a3)) (aM (.hd a3)) (cK (.hd a3)) .nil) (aA a3) (bX (dK (.hd a8) (aA a8) (aM a8) .nil) .nil)) (aM a2) (cK a2) (p8 a2) .nil)) .nil;let a9:E:=aY bU (.len aI);let a10:E:=bK (.len bC) aj;(.cond (dh (.len au) zD) a1 (.call [] 67 [(ay,au)] [(.sl ay),ah] (.cond (bL aN aj) (.ret [(uJ,.bg),(ah,aN)]) (.loop [.bg,aj,.nil,aj] (.cond a9 (.ak [] (bH bU aj) (.ak [] a9 (.call [] 68 [(ay,(.idx aI bU))] [VA,ah] (.cond (bL fP aj) (.ret [(uJ,.bg),(ah,fP)]) (.ak [] (aT (bG (aF (.len bC) (.len a0)) aAT) dM) (.ak [] (aP (aF bU aH)) (.jm 0 [aU,aR,(.app bC a0),(aF bU aH)]))))))) (.ak [(a10,false),((.not aB),true)] (aY aj (.len bC)) (.cond (.ite a10 bn (.ite (.not aB) (bL (.hd (.idx bC aj)) aH) bf)) (.ret [(uJ,.bg),(ah,qG)]) (.call [] 69 [(uJ,bC),(.bool,aB)] [.bool] (.cond (.not dH) a1 (.ret [(uJ,bC),(ah,aj)]))))))))))
theorem amX:Vp prog ZL [ay,.bool] YW:=jv func26 {} []
abbrev aav:FuncId:=33
def Zh:VC:=let a3:E:=aA au;let a1:E:=dW a3;let a0:E:=mP a1;let a2:E:=mP a0;(.call [] 19 [(aki,(dJ (.hd a3) (aA a3) (.hd a1) (aA a1) (aM a1) (cK a1) (dJ (.hd a0) (aA a0) (aM a0) (cK a0) (.hd a2) (aA a2) (dK (aM a2) (cK a2) (p8 a2) .nil))))] [.bool] (.cond (.not aB) (.ret [(ay,.bg),(ah,Qk)]) (.cond (aM au) (.call [] 77 [(ay,(.hd au))] [ay] (.ret [(ay,aI),(ah,aj)])) (.call [] 26 [(ay,(.hd au)),(.bool,bn)] [uJ,ah] (.cond (bL aN aj) (.ret [(ay,.bg),(ah,aN)]) (.call [] 25 [(uJ,aI),(.bool,bn),(ah,(cK au))] [ay,ah] (.ret [(ay,aU),(ah,aR)])))))))
theorem anj:Vp prog aav [(.jc ay (.jc aki (.jc .bool (.jc ah .je))))] Zh:=jv func33 {} []
abbrev XM:FuncId:=275
def XA:VC:=(.call [] 26 [(ay,aB),(.bool,bn)] [uJ,ah] (.ret [(ah,aN)]))
theorem alY:Vp prog XM [.je,ay] XA:=jv func275 {} []
abbrev aqp:FuncId:=31
def Zb:VC:=(.cond (dh (.len au) zD) (.ret [(ah,iZ),(ah,aW)]) (.cond (aY (.len au) dU) (.ret [(ah,iZ),(ah,dU)]) (.call [] 73 [(ay,au)] [(.dB 223 .je)] (.call [] 275 [(.je,aB),(ay,au)] [ah] (.cond (bL aI aj) (.ret [(ah,iZ),(ah,aI)]) (.call [] 74 [((.dB 223 .je),aB)] [ah] (.ret [(ah,aN),(ah,aj)])))))))
theorem anc:Vp prog aqp [ay] Zb:=jv func31 {aK:=[(73,[.dB 223 .je])]} []
abbrev VF:Sh:=.jc ah (.jc ah .je)
abbrev VG:Sh:=.sl VF
abbrev Fx:Sh:=.jc eX (.jc ah (.jc rO (.jc VG .je)))
abbrev aaG:FuncId:=23
def Zr:VC:=let a0:E:=cK au;(.cond (.ite (.ite (aY (aA au) (.int (-8388608))) bn (bH (aA au) avE)) bn (dh (.len a0) UU)) (.ret [(.bool,bf)]) (.loop [bf,aj] (.cond (aY aI (.len a0)) (.ak [] (bH aI aj) (.ak [] (aY aI (.len a0)) (.call [] 64 [(VF,(fJ (.hd (.idx a0 aI)) (aA (.idx a0 aI)) .nil))] [.bool] (.cond (.not aN) (.ret [(.bool,bf)]) (.ak [] (aP (aF aI aH)) (.jm 0 [aB,(aF aI aH)])))))) (.ret [(.bool,bn)]))))
theorem anv:Vp prog aaG [Fx] Zr:=jv func23 {} []
abbrev Yt:FuncId:=64
def Yi:VC:=let a0:E:=aA au;(.cond (bK (.hd au) aj) (.ret [(.bool,(bK a0 aj))]) (.cond (bK (.hd au) aH) (.ret [(.bool,(.ite (bH a0 aj) (aT a0 uH) bf))]) (.cond (bK (.hd au) dU) (.ret [(.bool,(.ite (bH a0 (.int (-32768))) (aY a0 ahg) bf))]) (.ret [(.bool,bf)]))))
theorem amj:Vp prog Yt [VF] Yi:=jv func64 {} []
abbrev QX:FuncId:=281
def QK:VC:=let a1:E:=aF nS aH;let a5:E:=dW au;let a0:E:=aA a5;let a2:E:=.idx (fJ (fJ (kK (.hd au)) dU .nil) (fJ (.len a0) dU .nil) .nil) aN;let a4:E:=.idx a0 nS;let a6:E:=aF (.len aI) (.len aU);let a3:E:=aT (bG a6 aH) dM;let a7:E:=bX (iF (aA a4)) .nil;let a8:E:=aY iE (.len bU);(.call [] 23 [(Fx,(dS (.hd au) (aA au) (.hd a5) a0 .nil))] [.bool] (.cond (.not aB) (.ret [(ay,.bg),(ah,aH)]) (.loop [.nil,aj] (.cond (aY aN dU) (.ak [] (bH aN aj) (.ak [] (aY aN dU) (.call [] 221 [(dG,(gD (.hd a2))),(ah,(aA a2))] [ay,ah] (.ak [] a3 (.ak [] (aP (aF aN aH)) (.jm 0 [(.app aI aU),(aF aN aH)])))))) (.call [] 219 [(ah,(aA au)),(ah,iZ)] [ay,ah] (.ak [] a3 (.ak [] (aT (bG (aF a6 (.len (bX (.hd a5) .nil))) aH) dM) (.call [] 283 [(VG,a0)] [(.sl ah)] (.call [] 282 [((.sl ah),bC)] [(.sl eX),ah] (.loop [(.app (.app aI aU) (bX (.hd a5) .nil)),aj] (.cond a8 (.ak [] (bH iE aj) (.ak [] a8 (.call [] 221 [(dG,(gD (.idx bU iE))),(ah,dU)] [ay,ah] (.ak [] (aT (bG (aF (.len fP) (.len oU)) aH) dM) (.ak [] (aP (aF iE aH)) (.jm 1 [(.app fP oU),(aF iE aH)])))))) (.loop [fP,aj] (.cond (aY nS (.len a0)) (.ak [] (bH nS aj) (.ak [] (aY nS (.len a0)) (.call [] 219 [(ah,(aA a4)),(ah,dU)] [ay,ah] (.cond (bK (.hd a4) aH) (.ak [] (aT (bG (aF (.len oU) (.len a7)) aH) dM) (.ak [] (aP a1) (.jm 2 [(.app oU a7),a1]))) (.cond (bK (.hd a4) dU) (.ak [] (aT (bG (aF (.len oU) (.len ql)) aH) dM) (.ak [] (aP a1) (.jm 2 [(.app oU ql),a1]))) (.ak [] (aP a1) (.jm 2 [oU,a1]))))))) (.call [] 206 [(ay,oU)] [ay] (.ret [(ay,ql),(ah,aj)])))))))))))))))
theorem Y0:Vp prog QX [Fx] QK:=jv func281 {} []
abbrev aaE:FuncId:=283
def Zq:VC:=let a0:E:=bX (.hd (.idx au aI)) .nil;let a1:E:=aY aI (.len au);(.loop [.nil,aj] (.cond a1 (.ak [] (bH aI aj) (.ak [] a1 (.ak [] (aT (bG (aF (.len aB) (.len a0)) dX) dM) (.ak [] (aP (aF aI aH)) (.jm 0 [(.app aB a0),(aF aI aH)]))))) (.ret [((.sl ah),aB)])))
theorem anu:Vp prog aaE [VG] Zq:=jv func283 {} []
abbrev abU:FuncId:=190
def aag:VC:=let a1:E:=aF dX (bG dU aR);let a3:E:=dS aj aj aj .bg .nil;let a0:VC:=.ret [(Fx,a3),(ah,aW)];let a2:VC:=.ret [(Fx,a3),(ah,dU)];let a4:E:=.idx aU rF;let a5:E:=bX (fJ a4 aBH .nil) .nil;let a6:E:=aY rF (.len aU);let a7:E:=aY dH (.len aU);(.cond (.ite (dh (.len au) Kn) bn (bL (iM (.len au) aW) aj)) a0 (.cond (aY (.len au) dX) a2 (.call [] 145 [(ay,au),(ah,dU),(ah,dU)] [dG,ah] (.cond (dh aB UU) a0 (.ak [] (aT dX (.len au)) (.ak [] (aT (.len au) (.len au)) (.call [] 230 [(ay,(.sub au dX (.len au)))] [(.sl eX)] (.call [] 229 [((.sl eX),aN),(ah,(kK aB))] [(.sl ah),ah,ah] (.cond (bL bC aj) (.ret [(Fx,a3),(ah,bC)]) (.ak [] (aP (bG dU aR)) (.ak [] (aP a1) (.loop [aj,aj] (.cond a7 (.ak [] (bH dH aj) (.ak [] a7 (.call [] 231 [(ah,(.idx aU dH))] [ah] (.ak [] (aP (aF bU fP)) (.ak [] (aP (aF dH aH)) (.jm 0 [(aF bU fP),(aF dH aH)])))))) (.ak [] (aP (eF (.len au) a1)) (.cond (aY (eF (.len au) a1) bU) a2 (.ak [] (aP (aF a1 bU)) (.call [] 184 [(ah,(aF a1 bU))] [ah] (.cond (bL (.len au) fP) a0 (.call [] 145 [(ay,au),(ah,aj),(ah,dU)] [dG,ah] (.call [] 181 [(ay,au),(ah,aW),(ah,iZ)] [ah,ah] (.ak [] (aY D8 (.len au)) (.loop [a1,aj,.nil] (.cond a6 (.ak [] (bH rF aj) (.ak [] a6 (.call [] 232 [(ah,a4),(ay,au),(ah,rZ)] [ah] (.ak [] (aT (bG (aF (.len Iu) (.len a5)) mW) dM) (.call [] 231 [(ah,a4)] [ah] (.ak [] (aP (aF rZ aky)) (.ak [] (aP (aF rF aH)) (.jm 1 [(aF rZ aky),(aF rF aH),(.app Iu a5)])))))))) (.ret [(Fx,(dS (Fq iE) nS (.idx au D8) Iu .nil)),(ah,aj)]))))))))))))))))))))))))
theorem aoh:Vp prog abU [ay] aag:=jv func190 {} []
abbrev Y8:FuncId:=230
def YA:VC:=let a0:E:=aF aI dU;let a1:E:=bX (Fq aN) .nil;(.loop [.nil,aj] (.ak [] (aP a0) (.cond (aT a0 (.len au)) (.call [] 145 [(ay,au),(ah,aI),(ah,dU)] [dG,ah] (.ak [] (aT (bG (aF (.len aB) (.len a1)) dU) dM) (.ak [] (aP a0) (.jm 0 [(.app aB a1),a0])))) (.ret [((.sl eX),aB)]))))
theorem amE:Vp prog Y8 [ay] YA:=jv func230 {} []
abbrev abT:FuncId:=231
def aaf:VC:=(.cond (bK au aH) (.ret [(ah,aH)]) (.cond (bK au dU) (.ret [(ah,dU)]) (.ret [(ah,aj)])))
theorem aog:Vp prog abT [ah] aaf:=jv func231 {} []
abbrev aaF:FuncId:=232
def ME:VC:=(.cond (bK au aH) (.ak [] (bH aI aj) (.ak [] (aY aI (.len aB)) (.ret [(ah,(kK (.idx aB aI)))]))) (.cond (bK au dU) (.call [] 181 [(ay,aB),(ah,aI),(ah,dU)] [ah,ah] (.ret [(ah,aN)])) (.ret [(ah,aj)])))
theorem QG:Vp prog aaF [ah,ay,ah] ME:=jv func232 {} []
abbrev ac8:FuncId:=288
def abo:VC:=let a0:E:=eF (eF aI aH) aR;let a1:E:=bG aN a0;let a2:E:=aY aR (.len au);(.loop [aB,aj] (.cond a2 (.ak [] (bH aR aj) (.ak [] a2 (.ak [] (aP (eF aI aH)) (.ak [] (aP a0) (.ak [] (aP a1) (.ak [] (bH a1 aj) (.ak [] (aP (aF aR aH)) (.jm 0 [(Ub aU (Tv (Fq (.idx au aR)) a1)),(aF aR aH)])))))))) (.ret [(eX,aU)])))
theorem apH:Vp prog ac8 [(.sl ah),eX,ah,ah] abo:=jv func288 {} []
abbrev aaD:FuncId:=245
def Zp:VC:=let a0:E:=bL (NK au ayq) aj;let a3:E:=eF (.ite a0 D8 Lr) aH;let a4:E:=.ite a0 dU aH;let a1:E:=bG a4 (eF a3 aN);let a5:E:=eF (Ka aH a4) aH;let a2:E:=bX (af2 (kK (GY au a1)) a5) .nil;let a6:VC:=.ret [((.sl ah),aI)];(.cond (bK (NK au ahg) aj) (.call [] 248 [((.sl ah),(bX (af2 (kK (GY au aBO)) iZ) .nil)),(ah,(.qR (kK (NK au azS)) aB))] [(.sl ah)] a6) (.loop [.nil,aj] (.cond (aY aN (.qR (.ite a0 D8 Lr) aB)) (.ak [] (aP a3) (.ak [] (aP (eF a3 aN)) (.ak [] (aP a1) (.ak [] (bH a1 aj) (.ak [] (bH a4 aj) (.ak [] (aP a5) (.ak [] (aT (bG (aF (.len aI) (.len a2)) dX) dM) (.ak [] (aP (aF aN aH)) (.jm 0 [(.app aI a2),(aF aN aH)]))))))))) a6)))
theorem ant:Vp prog aaD [eX,ah] Zp:=jv func245 {} []
abbrev ac9:FuncId:=229
def abp:VC:=let a0:E:=eF aB (.len aR);(.cond (.ite (aY aB aj) bn (dh aB UU)) (.ret [((.sl ah),.bg),(ah,aj),(ah,aH)]) (.loop [.bg,aj,aj,.nil,aj] (.cond (aY (.len aR) aB) (.cond (bK bC (.len au)) (.ret [((.sl ah),.bg),(ah,aj),(ah,dU)]) (.ak [] (bH bC aj) (.ak [] (aY bC (.len au)) (.ak [] (aP a0) (.call [] 245 [(eX,(.idx au bC)),(ah,a0)] [(.sl ah)] (.call [] 246 [((.sl ah),bU),(ah,iZ)] [.bool] (.cond dH (.ret [((.sl ah),.bg),(ah,aj),(ah,qG)]) (.ak [] (aT (bG (aF (.len aR) (.len bU)) dX) dM) (.ak [] (aP (aF bC aH)) (.jm 0 [aI,aN,aU,(.app aR bU),(aF bC aH)])))))))))) (.ret [((.sl ah),aR),(ah,bC),(ah,aj)]))))
theorem apI:Vp prog ac9 [(.sl eX),ah] abp:=jv func229 {} []
abbrev Rh:FuncId:=282
def aad:VC:=let a0:E:=aY aN (.len au);(.loop [.bg,aj,aj] (.cond a0 (.ak [] (bH aN aj) (.ak [] a0 (.cond (.ite (aY (.idx au aN) aj) bn (dh (.idx au aN) dU)) (.ret [((.sl eX),.bg),(ah,aH)]) (.ak [] (aP (aF aN aH)) (.jm 0 [aB,aI,(aF aN aH)]))))) (.loop [.nil,aj] (.cond (aY aR (.len au)) (.ak [] (bH aR aj) (.ak [] (aT aR (.len au)) (.ak [] (aT (.len au) (.len au)) (.call [] 284 [((.sl ah),(.sub au aR (.len au)))] [eX,ah] (.ak [] (aT (bG (aF (.len aU) (.len (bX bC .nil))) dU) dM) (.ak [] (aP (aF aR bU)) (.jm 1 [(.app aU (bX bC .nil)),(aF aR bU)]))))))) (.ret [((.sl eX),aU),(ah,aj)])))))
theorem aoe:Vp prog Rh [(.sl ah)] aad:=jv func282 {} []
abbrev Xv:FuncId:=248
def Xq:VC:=let a0:E:=kK aN;let a1:E:=.sub aR aj (aF aj (eF aU aj));let a2:E:=aF aU (.qR (.len a1) (eF a0 aU));(.cond (aY aB aj) (.fail 2001) (.call [] 251 [(dG,(gD (.len au))),(dG,(gD aB))] [dG,dG] (.cond (.ite (dh aI aj) bn (dh aN amf)) (.fail 5001) (.ak [] (bH a0 aj) (.ak [] (aT a0 a0) (.ak [] (aT (bG dX a0) y7) (.loop [(.qR (.len au) a0),(.jr (.rep a0 aj) aj (.sub au aj a0))] (.cond (aY aU a0) (.ak [] (bH aU aj) (.ak [] (aT aU a0) (.ak [] (aT a0 a0) (.ak [] (aT aj aU) (.ak [] (aT aU a0) (.ak [] (aP a2) (.jm 0 [a2,(.jr aR aU (.sub a1 aj (eF a0 aU)))]))))))) (.ret [((.sl ah),aR)])))))))))
theorem alT:Vp prog Xv [(.sl ah),ah] Xq:=jv func248 {} []
abbrev Xo:FuncId:=246
def Xl:VC:=(.call [] 249 [((.sl ah),au),(ah,aB)] [ah] (.ret [(.bool,(bH aI aj))]))
theorem alQ:Vp prog Xo [(.sl ah),ah] Xl:=jv func246 {} []
abbrev Xx:FuncId:=249
def Qz:VC:=let a0:E:=aY aN (.len au);(.loop [aj,aj] (.cond a0 (.ak [] (bH aN aj) (.ak [] a0 (.cond (bK aB (.idx au aN)) (.ret [(ah,aN)]) (.ak [] (aP (aF aN aH)) (.jm 0 [aI,(aF aN aH)]))))) (.ret [(ah,(.int (-1)))])))
theorem Xt:Vp prog Xx [(.sl ah),ah] Qz:=jv func249 {} []
abbrev ZJ:FuncId:=251
def YU:VC:=(.call [] 253 [(dG,au),(dG,aB)] [dG,dG] (.ret [(dG,aI),(dG,aN)]))
theorem amV:Vp prog ZJ [dG,dG] YU:=jv func251 {} []
abbrev YI:FuncId:=253
def Yq:VC:=let a1:E:=NJ aB Rj;let a2:E:=NJ au Rj;let a3:E:=CU aB qm;let a4:E:=CU au qm;let a0:E:=NM (Kc a4 a1) (CU (Kc a2 a1) qm);(.ret [(dG,(NM (NM (Kc a4 a3) (CU a0 qm)) (CU (NM (NJ a0 Rj) (Kc a2 a3)) qm))),(dG,(Kc au aB))])
theorem amr:Vp prog YI [dG,dG] Yq:=jv func253 {} []
abbrev Du:Sh:=.sl (.jc ah (.jc ay .je))
abbrev Ii:Sh:=.jc ah (.jc ah (.jc ah .je))
abbrev xZ:Sh:=.sl Ii
abbrev X6:FuncId:=270
def XK:VC:=let a0:E:=aF (kK (Bd (.idx aB aj) Lp)) aH;let a1:E:=aY aj (.len aB);(.ak [] a1 (.ak [] a1 (.ak [] (aP a0) (.ret [(Ii,(dK (kK (G8 (.idx aB aj) aW)) aH a0 .nil)),(.bool,bn)]))))
theorem al5:Vp prog X6 [.je,ay] XK:=jv func270 {} []
abbrev QB:FuncId:=272
def QA:VC:=(.cond (aY (.len aB) dU) (.ret [(Ii,(dK aj aj aj .nil)),(.bool,bf)]) (.ak [] (aY aj (.len aB)) (.ak [] (aY aH (.len aB)) (.ret [(Ii,(dK (kK (.idx aB aj)) dU (kK (.idx aB aH)) .nil)),(.bool,bn)]))))
theorem XD:Vp prog QB [.je,ay] QA:=jv func272 {} []
abbrev Yf:FuncId:=271
def XY:VC:=(.ret [(.bool,(.ite (bK (G8 aB aW) Lp) bn (bK (G8 aB aW) aj)))])
theorem amd:Vp prog Yf [.je,rO] XY:=jv func271 {} []
abbrev Yg:FuncId:=273
def XZ:VC:=(.ret [(.bool,bf)])
theorem ame:Vp prog Yg [.je,rO] XZ:=jv func273 {} []
abbrev ac4:FuncId:=118
def abk:VC:=let a2:VC:=.ret [(xZ,aU),(ah,aj)];let a3:VC:=.ret [(xZ,.bg),(ah,aW)];let a4:E:=aF (aA dH) aR;let a0:E:=aF a4 (aM dH);let a1:E:=bX (dK (.hd dH) a4 (aM dH) .nil) .nil;let a5:E:=aY aR (.len aB);let a6:E:=bH aR aj;let a7:E:=.jF bC (.hd dH) bf;(.loop [.bg,aj,.nil,aj,.nil] (.cond a5 (.ak [] a6 (.ak [] a5 (.cond (bK (.idx aB aR) aj) (.ak [] (aP (aF aR aH)) (.jm 0 [aI,aN,aU,(aF aR aH),bC])) (.ak [] a6 (.ak [] a5 (.call [] 271 [(.je,au),(rO,(.idx aB aR))] [.bool] (.cond bU a2 (.ak [] a6 (.ak [] (aT aR (.len aB)) (.ak [] (aT (.len aB) (.len aB)) (.call [] 270 [(.je,au),(ay,(.sub aB aR (.len aB)))] [Ii,.bool] (.cond (.not fP) a3 (.ak [] (aP a4) (.ak [] (aP a0) (.cond (dh a0 (.len aB)) a3 (.cond (.ite bn a7 a7) (.ret [(xZ,.bg),(ah,qG)]) (.ak [] (aT (bG (aF (.len aU) (.len a1)) uO) dM) (.ak [] (aP a0) (.jm 0 [aI,aN,(.app aU a1),a0,(.lQ bC (.hd dH) bn)]))))))))))))))))))) a2))
theorem apC:Vp prog ac4 [(.dB 221 .je),ay] abk:=jv func118 {z8:=[(0,.dB 221 .je)]} []
abbrev ac3:FuncId:=118
def abj:VC:=let a2:VC:=.ret [(xZ,aU),(ah,aj)];let a3:VC:=.ret [(xZ,.bg),(ah,aW)];let a4:E:=aF (aA dH) aR;let a0:E:=aF a4 (aM dH);let a1:E:=bX (dK (.hd dH) a4 (aM dH) .nil) .nil;let a5:E:=aY aR (.len aB);let a6:E:=bH aR aj;let a7:E:=.jF bC (.hd dH) bf;(.loop [.bg,aj,.nil,aj,.nil] (.cond a5 (.ak [] a6 (.ak [] a5 (.cond (bK (.idx aB aR) aj) (.ak [] (aP (aF aR aH)) (.jm 0 [aI,aN,aU,(aF aR aH),bC])) (.ak [] a6 (.ak [] a5 (.call [] 273 [(.je,au),(rO,(.idx aB aR))] [.bool] (.cond bU a2 (.ak [] a6 (.ak [] (aT aR (.len aB)) (.ak [] (aT (.len aB) (.len aB)) (.call [] 272 [(.je,au),(ay,(.sub aB aR (.len aB)))] [Ii,.bool] (.cond (.not fP) a3 (.ak [] (aP a4) (.ak [] (aP a0) (.cond (dh a0 (.len aB)) a3 (.cond (.ite bn a7 a7) (.ret [(xZ,.bg),(ah,qG)]) (.ak [] (aT (bG (aF (.len aU) (.len a1)) uO) dM) (.ak [] (aP a0) (.jm 0 [aI,aN,(.app aU a1),a0,(.lQ bC (.hd dH) bn)]))))))))))))))))))) a2))
theorem apB:Vp prog ac3 [(.dB 222 .je),ay] abj:=jv func118 {z8:=[(0,.dB 222 .je)]} []
abbrev ac6:FuncId:=72
def abm:VC:=let a0:VC:=.ret [(xZ,aI),(ah,aN)];(.cond (bK au Ko) (.call [] 118 [((.dB 221 .je),.nil),(ay,aB)] [xZ,ah] a0) (.cond (bK (NK au Kn) aiD) (.call [] 118 [((.dB 222 .je),.nil),(ay,aB)] [xZ,ah] a0) (.ret [(xZ,.bg),(ah,qG)])))
theorem apF:Vp prog ac6 [eX,ay] abm:=jv func72 {} []
abbrev abQ:FuncId:=237
def Z9:VC:=let a0:E:=.idx au aI;let a1:E:=aY aI (.len au);(.loop [bf,aj] (.cond a1 (.ak [] (bH aI aj) (.ak [] a1 (.cond (.ite (.ite (.ite (aY (.hd a0) aH) bn (dh (.hd a0) Lr)) bn (aY (.len (aA a0)) aH)) bn (dh (.len (aA a0)) mW)) (.ret [(.bool,bf)]) (.ak [] (aP (aF aI aH)) (.jm 0 [aB,(aF aI aH)]))))) (.ret [(.bool,bn)])))
theorem aoc:Vp prog abQ [Du] Z9:=jv func237 {} []
abbrev aaA:FuncId:=205
def Zm:VC:=(.call [] 62 [(Du,au)] [.bool] (.cond (.not aB) (.ret [(eX,aj)]) (.call [] 237 [(Du,au)] [.bool] (.cond aI (.ret [(eX,Ko)]) (.ret [(eX,aiD)])))))
theorem anp:Vp prog aaA [Du] Zm:=jv func205 {} []
abbrev ac5:FuncId:=157
def abl:VC:=let a3:E:=aF aN aH;let a4:E:=.idx au aN;let a0:E:=aA a4;let a1:E:=bX (iF (Oe (Ka (.hd a4) aW) (eF (.len a0) aH))) .nil;let a2:E:=fJ (iF (.hd a4)) (iF (.len a0)) .nil;let a5:E:=aY aN (.len au);(.call [] 205 [(Du,au)] [eX] (.cond (bK aB aj) (.ret [(eX,aj),(ay,.bg),(ah,aH)]) (.loop [.nil,aj] (.cond a5 (.ak [] (bH aN aj) (.ak [] a5 (.cond (bK aB Ko) (.ak [] (aP (eF (.len a0) aH)) (.ak [] (aT (bG (aF (.len aI) (.len a1)) aH) dM) (.ak [] (aT (bG (aF (aF (.len aI) aH) (.len a0)) aH) dM) (.ak [] (aP a3) (.jm 0 [(.app (.app aI a1) a0),a3]))))) (.ak [] (aT (bG (aF (.len aI) (.len a2)) aH) dM) (.ak [] (aT (bG (aF (aF (.len aI) dU) (.len a0)) aH) dM) (.ak [] (aP a3) (.jm 0 [(.app (.app aI a2) a0),a3]))))))) (.call [] 206 [(ay,aI)] [ay] (.ret [(eX,aB),(ay,aU),(ah,aj)]))))))
theorem apD:Vp prog ac5 [Du] abl:=jv func157 {} []
abbrev adW:FuncId:=30
def acf:VC:=let a1:E:=.idx aI aR;let a0:E:=aF (aA a1) (aM a1);let a2:E:=bX (fJ (.hd a1) (.sub aB (aA a1) a0) .nil) .nil;let a3:E:=aY aR (.len aI);(.call [] 72 [(eX,au),(ay,aB)] [xZ,ah] (.cond (bL aN aj) (.ret [(Du,.bg),(ah,aN)]) (.loop [.nil,aj] (.cond a3 (.ak [] (bH aR aj) (.ak [] a3 (.ak [] (aP a0) (.ak [] (bH (aA a1) aj) (.ak [] (aT (aA a1) a0) (.ak [] (aT a0 (.len aB)) (.ak [] (aT (bG (.len (.sub aB (aA a1) a0)) aH) dM) (.ak [] (aT (bG (aF (.len aU) (.len a2)) qm) dM) (.ak [] (aP (aF aR aH)) (.jm 0 [(.app aU a2),(aF aR aH)])))))))))) (.ret [(Du,aU),(ah,aj)])))))
theorem aqU:Vp prog adW [eX,ay] acf:=jv func30 {} []
abbrev aeK:FuncId:=206
def adn:VC:=let a1:E:=eF aW (iM (.len au) aW);let a0:E:=aF (.len au) (iM a1 aW);(.ak [] (aP a1) (.ak [] (aP a0) (.ak [] (bH a0 aj) (.ak [] (aT a0 a0) (.ak [] (aT (bG aH a0) y7) (.ret [(ay,(.jr (.rep a0 aj) aj (.sub au aj a0)))]))))))
theorem asn:Vp prog aeK [ay] adn:=jv func206 {} []
abbrev Pp:Sh:=.sl ay
abbrev K9:Sh:=.jc .bool (.jc .bool (.jc .bool (.jc ah (.jc eX (.jc bI (.jc bI (.jc (.sl bI) .je)))))))
abbrev qN:Sh:=.jc K9 (.jc eX (.jc ay (.jc ay (.jc ah .je))))
abbrev adQ:FuncId:=91
def ab6:VC:=let a0:E:=eF (.len au) aH;let a1:E:=kK (.idx au a0);let a2:VC:=.ret [(ah,aj),(ah,uf)];(.cond (bK (.len au) aj) a2 (.ak [] (aP a0) (.ak [] (bH a0 aj) (.ak [] (aY a0 (.len au)) (.cond (.ite (aY a1 aH) bn (dh a1 (.len au))) a2 (.ret [(ah,a1),(ah,aj)]))))))
theorem aqO:Vp prog adQ [ay] ab6:=jv func91 {} []
abbrev afJ:FuncId:=161
def aec:VC:=let a0:E:=aF (.len au) aB;let a1:E:=eF a0 aH;(.cond (.ite (aY aB aH) bn (dh aB uH)) (.ret [(ay,.bg),(ah,aH)]) (.ak [] (aP a0) (.ak [] (bH a0 aj) (.ak [] (aT a0 a0) (.ak [] (aT (bG aH a0) y7) (.ak [] (aP a1) (.ak [] (bH a1 aj) (.ak [] (aY a1 a0) (.ret [(ay,(.set (.jr (.rep a0 aj) aj (.sub au aj a0)) a1 (iF aB))),(ah,aj)])))))))))
theorem atB:Vp prog afJ [ay,ah] aec:=jv func161 {} []
abbrev abL:FuncId:=199
def ZW:VC:=let a0:E:=.tl (.hd au);let a1:E:=dW au;let a2:E:=gX a0;let a3:E:=aM a1;(.call [] 208 [(K9,(dJ (.hd (.hd au)) (.hd a0) (aA a0) (aM a0) (.hd a2) (aA a2) (fJ (aM a2) (cK a2) .nil)))] [.bool] (.cond (.ite (.ite (.not aB) bn (bL (iM (.len (.hd a1)) aW) aj)) bn (dh (EC (.len (.hd a1)) aW) zD)) (.ret [(.bool,bf)]) (.cond (.ite (.not (.hd a0)) (.ite (bL (aA au) aj) bn (bL (.len (.hd a1)) aj)) bf) (.ret [(.bool,bf)]) (.cond (.hd (.hd au)) (.ret [(.bool,(.ite (bH a3 aH) (aT a3 uH) bf))]) (.ret [(.bool,(bK a3 aj))])))))
theorem an3:Vp prog abL [qN] ZW:=jv func199 {} []
abbrev acU:FuncId:=159
def aa3:VC:=let a1:E:=.tl (.hd au);let a4:E:=gX a1;let a5:E:=dW au;let a2:E:=aF aW (.len (.hd a5));let a3:E:=aF aB (.len (aA a5));let a0:E:=aF a3 (aM a5);(.call [] 207 [(K9,(dJ (.hd (.hd au)) (.hd a1) (aA a1) (aM a1) (.hd a4) (aA a4) (fJ (aM a4) (cK a4) .nil)))] [ah] (.ak [] (aP a3) (.ak [] (aP a0) (.ak [((.hd a1),true)] (aP a2) (.ak [((.hd a1),true)] (aP (aF a0 a2)) (.ret [(ah,(.ite (.hd a1) (aF a0 a2) a0))]))))))
theorem apn:Vp prog acU [qN] aa3:=jv func159 {} []
abbrev aay:FuncId:=154
def Zk:VC:=let a2:E:=dW au;let a3:E:=.tl (.hd au);let a1:E:=dW a3;let a0:E:=oD (dJ (.hd (.hd au)) (.hd a3) (aA a3) (.hd a1) (aA a1) (aM a1) (fJ (cK a1) (p8 a1) .nil)) (aA au) (.hd a2) (aA a2) (aM a2) .nil;(.call [] 199 [(qN,a0)] [.bool] (.call [(aB,true)] 159 [(qN,a0)] [ah] (.ret [(.bool,(.ite aB (aT aI zD) bf))])))
theorem anm:Vp prog aay [qN] Zk:=jv func154 {} []
abbrev abJ:FuncId:=90
def ZU:VC:=(.cond (bK (.len au) aj) (.ret [(ay,.bg)]) (.call [] 109 [(Pp,(bX au .nil))] [ay] (.ret [(ay,aB)])))
theorem an1:Vp prog abJ [ay] ZU:=jv func90 {} []
abbrev abK:FuncId:=45
def ZV:VC:=let a1:E:=.sub au aI (.len au);let a4:E:=bG aW (Oe (Ka (kK (.idx a1 dU)) dX) (kK (.idx a1 iZ)));let a7:E:=.sub a1 aW (.len a1);let a0:E:=.sub a7 a4 (.len a7);let a8:E:=eF (.len a1) aU;let a9:E:=eF (.len a1) aj;let a10:E:=eF (.len a0) aR;let a11:E:=eF (.len a0) aj;let a12:E:=Ub (Tv (Fq (.idx a1 aj)) dX) (Fq (.idx a1 aH));let a13:E:=gX aB;let a3:E:=dJ (.hd aB) (aA aB) (aM aB) (.hd a13) (aA a13) (aM a13) (fJ (cK a13) (p8 a13) .nil);let a14:E:=aT (.len a1) (.len a1);let a15:E:=bX aj .nil;let a2:E:=dS (dJ bf bf bf aj aj aj (fJ aj .bg .nil)) aj .bg .bg a15;let a5:VC:=.ret [(qN,a2),(ay,.bg),(ah,uf)];let a6:VC:=.ret [(qN,a2),(ay,.bg),(ah,dU)];(.cond (dh (.len au) zD) (.ret [(qN,a2),(ay,.bg),(ah,aW)]) (.call [] 89 [(ay,au)] [K9,ah,ah] (.cond (bL aN aj) (.ret [(qN,a2),(ay,.bg),(ah,aN)]) (.ak [] (bH aI aj) (.ak [] (aT aI (.len au)) (.ak [] (aT (.len au) (.len au)) (.cond (aA aB) (.cond (aY (.len a1) aW) a6 (.ak [] (aY aj (.len a1)) (.ak [] (aY aH (.len a1)) (.ak [] (aY dU (.len a1)) (.ak [] (aY iZ (.len a1)) (.ak [] (aP a4) (.ak [] (aT aW (.len a1)) (.ak [] a14 (.cond (aY (.len a7) a4) a6 (.ak [] (aT aj a4) (.ak [] (aT a4 (.len a7)) (.call [] 90 [(ay,(.sub a7 aj a4))] [ay] (.ak [] (bH a4 aj) (.ak [] (aT a4 (.len a7)) (.ak [] (aT (.len a7) (.len a7)) (.cond (.hd aB) (.call [] 91 [(ay,a0)] [ah,ah] (.cond (bL bC aj) a5 (.ak [] (aP a10) (.ak [] (aT aj a10) (.ak [] (aT a10 (.len a0)) (.call [] 90 [(ay,(.sub a0 aj a10))] [ay] (.ak [] (bH a10 aj) (.ak [] (aT a10 (.len a0)) (.ak [] (aT (.len a0) (.len a0)) (.ret [(qN,(oD a3 a12 aU bU aR .nil)),(ay,(.sub a0 a10 (.len a0))),(ah,aj)])))))))))) (.ak [] (aP a11) (.ak [] (aT aj a11) (.ak [] (aT a11 (.len a0)) (.call [] 90 [(ay,(.sub a0 aj a11))] [ay] (.ak [] (bH a11 aj) (.ak [] (aT a11 (.len a0)) (.ak [] (aT (.len a0) (.len a0)) (.ret [(qN,(dS a3 a12 aU aR a15)),(ay,(.sub a0 a11 (.len a0))),(ah,aj)])))))))))))))))))))))))) (.cond (.hd aB) (.call [] 91 [(ay,a1)] [ah,ah] (.cond (bL aR aj) a5 (.ak [] (aP a8) (.ak [] (aT aj a8) (.ak [] (aT a8 (.len a1)) (.call [] 90 [(ay,(.sub a1 aj a8))] [ay] (.ak [] (bH a8 aj) (.ak [] (aT a8 (.len a1)) (.ak [] a14 (.ret [(qN,(oD a3 aj .bg bC aU .nil)),(ay,(.sub a1 a8 (.len a1))),(ah,aj)])))))))))) (.ak [] (aP a9) (.ak [] (aT aj a9) (.ak [] (aT a9 (.len a1)) (.call [] 90 [(ay,(.sub a1 aj a9))] [ay] (.ak [] (bH a9 aj) (.ak [] (aT a9 (.len a1)) (.ak [] a14 (.ret [(qN,(dS a3 aj .bg aU a15)),(ay,(.sub a1 a9 (.len a1))),(ah,aj)]))))))))))))))))
theorem an2:Vp prog abK [ay] ZV:=jv func45 {} []
abbrev abM:FuncId:=13
def ZX:VC:=let a1:E:=dW aB;let a2:E:=.tl (.hd aB);let a0:E:=dW a2;(.call [] 45 [(ay,au)] [qN,ay,ah] (.ret [(qN,(oD (dJ (.hd (.hd aB)) (.hd a2) (aA a2) (.hd a0) (aA a0) (aM a0) (fJ (cK a0) (p8 a0) .nil)) (aA aB) (.hd a1) (aA a1) (aM a1) .nil)),(ah,aN)]))
theorem an4:Vp prog abM [ay] ZX:=jv func13 {} []
abbrev aax:FuncId:=121
def Zj:VC:=let a1:E:=dW au;let a2:E:=.tl (.hd au);let a4:VC:=.ret [(ay,.bg),(ah,aH)];let a5:E:=gX a2;let a6:E:=EC (.len (.hd a1)) aW;let a7:E:=aA au;let a8:E:=aM a1;let a9:E:=.hd (.hd au);let a0:E:=dJ a9 (.hd a2) (aA a2) (aM a2) (.hd a5) (aA a5) (fJ (aM a5) (cK a5) .nil);let a3:E:=oD a0 a7 (.hd a1) (aA a1) a8 .nil;(.call [] 154 [(qN,a3)] [.bool] (.cond (.not aI) a4 (.call [] 159 [(qN,a3)] [ah] (.cond (dh aN aB) (.ret [(ay,.bg),(ah,D8)]) (.call [] 160 [(K9,a0)] [ay,ah] (.cond (bL aR aj) a4 (.cond (.hd a2) (.call [] 109 [(Pp,(dK aU (dS (iF (GY a7 dX)) (iF a7) (iF (NI a6 dX)) (iF a6) .nil) (.hd a1) .nil))] [ay] (.call [] 109 [(Pp,(fJ bC (aA a1) .nil))] [ay] (.cond a9 (.call [] 161 [(ay,bU),(ah,a8)] [ay,ah] (.ret [(ay,dH),(ah,fP)])) (.ret [(ay,bU),(ah,aj)])))) (.call [] 109 [(Pp,(fJ aU (aA a1) .nil))] [ay] (.cond a9 (.call [] 161 [(ay,bC),(ah,a8)] [ay,ah] (.ret [(ay,bU),(ah,dH)])) (.ret [(ay,bC),(ah,aj)]))))))))))
theorem anl:Vp prog aax [qN,ah] Zj:=jv func121 {} []
abbrev DN:Sh:=.jc .bool (.jc .bool (.jc .bool (.jc ah (.jc eX (.jc bI (.jc bI (.jc (.sl bI) .je)))))))
abbrev acZ:FuncId:=208
def aa8:VC:=let a0:E:=gX au;(.ret [(.bool,(.ite (.ite (bH (.hd a0) aj) (aT (.hd a0) Pb) bf) (aT (.len (p8 a0)) Lp) bf))])
theorem apt:Vp prog acZ [DN] aa8:=jv func208 {} []
abbrev adU:FuncId:=207
def acd:VC:=let a2:E:=dW au;let a0:E:=gX a2;let a1:E:=bG aW (.len (aM a0));(.call [] 208 [(DN,(dJ (.hd au) (aA au) (.hd a2) (aA a2) (aM a2) (.hd a0) (fJ (aA a0) (aM a0) .nil)))] [.bool] (.cond (.not aB) (.ret [(ah,aj)]) (.ak [] (aP a1) (.ak [] (aP (aF vO a1)) (.ret [(ah,(aF vO a1))])))))
theorem aqS:Vp prog adU [DN] acd:=jv func207 {} []
abbrev adI:FuncId:=1000209
def Rl:VC:=(.ak [] (aT (bG (aF (.len au) (.len (dS (iF (CV aB uO)) (iF (CV aB mW)) (iF (CV aB dX)) (iF aB) .nil))) aH) dM) (.ret [(ay,(.app au (dS (iF (CV aB uO)) (iF (CV aB mW)) (iF (CV aB dX)) (iF aB) .nil)))]))
theorem anP:KA prog true {} [] Tryz.f209=([ay,bI],Rl):=by kernel_rfl
theorem aqW{c0 c1:C}{args aK:List (Sh×C)}(hs:args.map (·.1)=[bI])(h:Rl.holds prog (fun r=>r=(ay,c1)::aK) [] (c0::args.map (·.2))):PC prog adI ((ay,c0)::args) ((ay,c1)::aK):=PC.VY (f:=209) (by decide) func209 (by kernel_rfl) anP hs h
abbrev acY:FuncId:=160
def aa7:VC:=let a6:E:=dW au;let a2:E:=.tl a6;let a7:E:=gX a2;let a1:E:=aA a7;let a4:E:=aF vO (bG aW (.len a1));let a5:E:=iF (Oe O9 (.len a1));let a3:E:=.ite (.hd au) (KE a5 qm) a5;let a0:E:=dS (.ite (aA au) (KE a3 mW) a3) (.ite (.hd a6) (KE (iF (.hd a2)) O9) (iF (.hd a2))) (iF (GY (aA a2) dX)) (iF (aA a2)) .nil;(.call [] 208 [(DN,(dJ (.hd au) (aA au) (.hd a6) (.hd a2) (aA a2) (aM a2) (fJ (.hd a7) a1 .nil)))] [.bool] (.cond (.not aB) (.ret [(ay,.bg),(ah,aH)]) (.ak [] (aP (bG aW (.len a1))) (.ak [] (aP a4) (.ak [] (aT aj a4) (.ak [] (aT (bG aH a4) y7) (.ak [] (aT (bG (aF aj (.len a0)) aH) dM) (.call [] 1000209 [(ay,(.app (.rep aj aj) a0)),(bI,(aM a2))] [ay] (.call [] 1000209 [(ay,aI),(bI,(.hd a7))] [ay] (.loop [aN,aj] (.cond (aY aR (.len a1)) (.ak [] (bH aR aj) (.ak [] (aY aR (.len a1)) (.call [] 1000209 [(ay,aU),(bI,(.idx a1 aR))] [ay] (.ak [] (aP (aF aR aH)) (.jm 0 [bC,(aF aR aH)]))))) (.ret [(ay,aU),(ah,aj)]))))))))))))
theorem aps:Vp prog acY [DN] aa7:=jv func160 {grow:=[209]} []
abbrev abN:FuncId:=122
def ZY:VC:=(.call [] 145 [(ay,au),(ah,aB),(ah,aW)] [dG,ah] (.ret [(bI,(rX aI))]))
theorem an5:Vp prog abN [ay,ah] ZY:=jv func122 {} []
abbrev adV:FuncId:=89
def ace:VC:=let a2:E:=dJ bf bf bf aj aj aj (fJ aj .bg .nil);let a0:VC:=.ret [(DN,a2),(ah,aj),(ah,dU)];let a3:E:=aY aj (.len au);let a4:E:=.idx au aj;let a5:E:=bG aW aN;let a7:E:=kK (Bd a4 Lp);let a1:E:=bG aW a7;let a6:E:=aF vO a1;let a8:E:=aY aH (.len au);(.cond (aY (.len au) vO) a0 (.ak [] a3 (.cond (bL (G8 a4 qG) dU) (.ret [(DN,a2),(ah,aj),(ah,iZ)]) (.ak [] a3 (.ak [] (aP a1) (.ak [] (aP a6) (.cond (aY (.len au) a6) a0 (.ak [] a3 (.ak [] a3 (.ak [] a8 (.ak [] a8 (.ak [] (aY dU (.len au)) (.ak [] (aY iZ (.len au)) (.call [] 122 [(ay,au),(ah,aW)] [bI] (.call [] 122 [(ay,au),(ah,dX)] [bI] (.loop [aj,.nil] (.cond (aY aN a7) (.ak [] (aP a5) (.ak [] (aP (aF vO a5)) (.call [] 122 [(ay,au),(ah,(aF vO a5))] [bI] (.ak [] (aT (bG (aF (.len aU) (.len (bX aR .nil))) aW) dM) (.ak [] (aP (aF aN aH)) (.jm 0 [(aF aN aH),(.app aU (bX aR .nil))])))))) (.ret [(DN,(dJ (bL (Bd a4 qm) aj) (bL (Bd a4 mW) aj) (bL (Bd (.idx au aH) O9) aj) (kK (Bd (.idx au aH) Pb)) (Ub (Tv (Fq (.idx au dU)) dX) (Fq (.idx au iZ))) aB (fJ aI aU .nil))),(ah,a6),(ah,aj)]))))))))))))))))))
theorem aqT:Vp prog adV [ay] ace:=jv func89 {} []
abbrev Vv:Sh:=.jc ah (.jc .str .je)
abbrev Dq:Sh:=.jc ah (.jc bI (.jc .str (.jc ay .je)))
abbrev Vw:Sh:=.sl (.jc bI (.jc (.sl Vv) .je))
abbrev Y2:FuncId:=242
def Yu:VC:=let a0:E:=.ite (.ite (bH (.hd au) aH) (aT (.hd au) uH) bf) (aT (.gG (aA au)) uH) bf;(.call [(a0,true)] 185 [(.str,(aA au))] [.bool] (.ret [(.bool,(.ite a0 aB bf))]))
theorem amx:Vp prog Y2 [Vv] Yu:=jv func242 {} []
abbrev acF:FuncId:=220
def aaO:VC:=let a0:E:=aA (.idx au aN);let a1:E:=aF dU (.gG (aA (.idx a0 bC)));let a2:E:=bG (EC aR aW) aW;let a3:E:=aY aN (.len au);(.cond (dh (.len au) BL) (.ret [(.bool,bf)]) (.loop [bf,aj,aj] (.cond a3 (.ak [] (bH aN aj) (.ak [] a3 (.ak [] (aP (aF aI aW)) (.loop [aB,(aF aI aW),aj] (.cond (aY bC (.len a0)) (.ak [] (bH bC aj) (.ak [] (aY bC (.len a0)) (.call [] 242 [(Vv,(fJ (.hd (.idx a0 bC)) (aA (.idx a0 bC)) .nil))] [.bool] (.cond (.not bU) (.ret [(.bool,bf)]) (.ak [] (aP a1) (.ak [] (aP (aF aR a1)) (.ak [] (aP (aF bC aH)) (.jm 1 [aU,(aF aR a1),(aF bC aH)])))))))) (.ak [] (aP a2) (.ak [] (aP (aF a2 aW)) (.ak [] (aP (aF aN aH)) (.jm 0 [aU,(aF a2 aW),(aF aN aH)]))))))))) (.ret [(.bool,(aT aI Bf))]))))
theorem ao7:Vp prog acF [Vw] aaO:=jv func220 {} []
abbrev aeB:FuncId:=2000206
def RD:VC:=(.ak [] (aP (eF aW (iM (.len au) aW))) (.ak [] (aP (aF (.len au) (iM (eF aW (iM (.len au) aW)) aW))) (.ak [] (bH (aF (.len au) (iM (eF aW (iM (.len au) aW)) aW)) aj) (.ak [] (aT (aF (.len au) (iM (eF aW (iM (.len au) aW)) aW)) (aF (.len au) (iM (eF aW (iM (.len au) aW)) aW))) (.ak [] (aT (bG aH (aF (.len au) (iM (eF aW (iM (.len au) aW)) aW))) y7) (.ret [(ay,(.jr (.rep (aF (.len au) (iM (eF aW (iM (.len au) aW)) aW)) aj) aj (.sub au aj (aF (.len au) (iM (eF aW (iM (.len au) aW)) aW)))))]))))))
theorem aoO:OJ prog true {} [] Tryz.f206=([ay],RD):=by kernel_rfl
theorem aso{s:Sh}{c1:C}{args aK:List (Sh×C)}(hs:args.map (·.1)=[ay])(h:RD.holds prog (fun r=>r=(.sl s,c1)::aK) [] (args.map (·.2))):PC prog aeB args ((.sl s,c1)::aK):=PC.akv (f:=206) (by decide) func206 (by kernel_rfl) aoO hs h
abbrev acE:FuncId:=176
def aaN:VC:=let a2:E:=aA (.idx au aN);let a0:E:=.idx a2 bU;let a1:E:=fJ (iF (.hd a0)) (iF (.gG (aA a0))) .nil;let a3:E:=aY aN (.len au);(.call [] 220 [(Vw,au)] [.bool] (.cond (.not aB) (.ret [(ay,.bg),(ah,aH)]) (.loop [.nil,aj] (.cond a3 (.ak [] (bH aN aj) (.ak [] a3 (.call [] 221 [(dG,(gD (.hd (.idx au aN)))),(ah,aW)] [ay,ah] (.ak [] (aT (bG (aF (.len aI) (.len aU)) aH) dM) (.loop [(.app aI aU),aj] (.cond (aY bU (.len a2)) (.ak [] (bH bU aj) (.ak [] (aY bU (.len a2)) (.ak [] (aT (bG (aF (.len bC) (.len a1)) aH) dM) (.ak [] (aT (bG (aF (aF (.len bC) dU) (.len (.ofStr (aA a0)))) aH) dM) (.ak [] (aP (aF bU aH)) (.jm 1 [(.app (.app bC a1) (.ofStr (aA a0))),(aF bU aH)])))))) (.ak [] (aT (bG (aF (.len bC) (.len (bX aj .nil))) aH) dM) (.call [] 2000206 [(ay,(.app bC (bX aj .nil)))] [ay] (.ak [] (aP (aF aN aH)) (.jm 0 [dH,(aF aN aH)])))))))))) (.ret [(ay,aI),(ah,aj)])))))
theorem ao6:Vp prog acE [Vw] aaN:=jv func176 {fresh:=[206]} []
abbrev JG:FuncId:=143
def ZT:VC:=let a0:E:=aF aH (kK (.idx au aj));let a1:E:=.jk (.sub au aH a0);(.ak [] (aY aj (.len au)) (.ak [] (aP a0) (.cond (aY (.len au) a0) (.ret [(.str,(.str [])),(ah,dU)]) (.call [] 184 [(ah,a0)] [ah] (.cond (dh (.len au) aB) (.ret [(.str,(.str [])),(ah,aW)]) (.ak [] (aT aH a0) (.ak [] (aT a0 (.len au)) (.call [] 185 [(.str,a1)] [.bool] (.cond (.not aI) (.ret [(.str,(.str [])),(ah,qG)]) (.ret [(.str,a1),(ah,aj)]))))))))))
theorem an0:Vp prog JG [ay] ZT:=jv func143 {} []
abbrev Jz:FuncId:=186
def Yh:VC:=(.ret [(.bool,(.ite (aY au qm) bn (dh au aA4)))])
theorem ami:Vp prog Jz [(.int .i32)] Yh:=jv func186 {} []
abbrev X9:FuncId:=243
def XQ:VC:=let a0:E:=aY aU (.gG au);(.loop [aj,aj] (.cond a0 (.ak [] a0 (.ak [] a0 (.call [] 186 [((.int .i32),(.zW au aU))] [.bool] (.cond (.beq aR aI) (.ret [(ah,aU)]) (.jm 0 [aN,(.ite a0 (aF aU (.Ah au aU)) aU)]))))) (.ret [(ah,(.int (-1)))])))
theorem al6:Vp prog X9 [.str,(.fH 186),.bool] XQ:=jv func243 {z8:=[(1,.fH 186)]} []
abbrev Ya:FuncId:=227
def XR:VC:=(.call [] 243 [(.str,au),((.fH 186),aB),(.bool,bn)] [ah] (.ret [(ah,aI)]))
theorem al7:Vp prog Ya [.str,(.fH 186)] XR:=jv func227 {z8:=[(1,.fH 186)]} []
abbrev XF:FuncId:=187
def Xy:VC:=(.call [] 227 [(.str,au),((.fH 186),aB)] [ah] (.ret [(.bool,(bH aI aj))]))
theorem alV:Vp prog XF [.str,(.fH 186)] Xy:=jv func187 {z8:=[(1,.fH 186)]} []
abbrev Y5:FuncId:=144
def Yx:VC:=let a0:E:=bK (.gG au) aW;(.call [(a0,true)] 187 [(.str,au),((.fH 186),.nil)] [.bool] (.ret [(.bool,(.ite a0 (.not aB) bf))]))
theorem amB:Vp prog Y5 [.str] Yx:=jv func144 {} []
abbrev ZH:FuncId:=223
def YS:VC:=let a0:E:=.ite (aY (.hd au) aj) bn (dh (.hd au) BL);let a1:E:=.len (cK au);(.call [(a0,false)] 144 [(.str,(aM au))] [.bool] (.cond (.ite a0 bn (.not aB)) (.ret [(.bool,bf)]) (.ret [(.bool,(.ite (bK (iM a1 aW) aj) (aT a1 Kn) bf))])))
theorem amT:Vp prog ZH [Dq] YS:=jv func223 {} []
abbrev ZF:FuncId:=178
def YQ:VC:=let a0:E:=dW au;(.call [] 223 [(Dq,(dS (.hd au) (aA au) (.hd a0) (aA a0) .nil))] [.bool] (.cond (.not aB) (.ret [(ay,.bg),(ah,aH)]) (.call [] 221 [(dG,(gD (aA au))),(ah,aW)] [ay,ah] (.ak [] (aP (.gG (.hd a0))) (.call [] 109 [((.sl ay),(dK aI (.ofStr (.hd a0)) (aA a0) .nil))] [ay] (.ret [(ay,aU),(ah,aj)]))))))
theorem amR:Vp prog ZF [Dq] YQ:=jv func178 {} []
abbrev aaw:FuncId:=115
def Zi:VC:=let a0:E:=dS aj aj (.str []) .bg .nil;let a1:E:=.jk (.sub aB aW dX);let a2:E:=.sub aB dX (.len aB);let a3:E:=aT dX (.len aB);(.cond (.ite (aY au aj) bn (dh au BL)) (.ret [(Dq,a0),(ah,aH)]) (.call [] 141 [(ay,aB)] [.bool] (.cond aI (.ret [(Dq,a0),(ah,aW)]) (.cond (aY (.len aB) dX) (.ret [(Dq,a0),(ah,dU)]) (.ak [] a3 (.call [] 144 [(.str,a1)] [.bool] (.cond (.not aN) (.ret [(Dq,a0),(ah,qG)]) (.call [] 145 [(ay,aB),(ah,aj),(ah,aW)] [dG,ah] (.ak [] a3 (.ak [] (aT (.len aB) (.len aB)) (.ak [] (aT (bG (.len a2) aH) dM) (.ret [(Dq,(dS au (rX aU) a1 a2 .nil)),(ah,aj)]))))))))))))
theorem ank:Vp prog aaw [ah,ay] Zi:=jv func115 {} []
abbrev Vx:Sh:=.jc ah (.jc ay .je)
abbrev xY:Sh:=.sl Vx
abbrev nR:Sh:=.jc (.jc .bool (.jc .bool (.jc .bool (.jc ah (.jc eX (.jc bI (.jc bI (.jc (.sl bI) .je)))))))) (.jc eX (.jc ay (.jc ay (.jc ah .je))))
abbrev mF:Sh:=.jc .bool (.jc .bool (.jc .bool (.jc ah (.jc .bool (.jc eX (.jc .bool (.jc bI (.jc .bool (.jc bI (.jc (.sl (.jc ah (.jc ah .je))) (.jc xY (.jc (.sl ah) (.jc xY (.jc .bool .je))))))))))))))
abbrev abS:FuncId:=77
def aae:VC:=(.Cz au (.ret [(ay,.bg)]) (.ak [] (aT (bG (aF aj (.len au)) aH) dM) (.ret [(ay,(.app .nil au))])))
theorem aof:Vp prog abS [ay] aae:=jv func77 {} []
abbrev abD:FuncId:=2000077
def QO:VC:=(.Cz au (.ret [(ay,.bg)]) (.ak [] (aT (bG (aF aj (.len au)) aH) dM) (.ret [(ay,(.app .nil au))])))
theorem amK:OJ prog true {} [] Tryz.f77=([ay],QO):=by kernel_rfl
theorem aoi{s:Sh}{c1:C}{args aK:List (Sh×C)}(hs:args.map (·.1)=[ay])(h:QO.holds prog (fun r=>r=(.sl s,c1)::aK) [] (args.map (·.2))):PC prog abD args ((.sl s,c1)::aK):=PC.akv (f:=77) (by decide) func77 (by kernel_rfl) amK hs h
abbrev Xk:FuncId:=200
def Xj:VC:=(.Cz au (.ret [((.sl bI),.bg)]) (.ak [] (aT (bG (aF aj (.len au)) aW) dM) (.ret [((.sl bI),(.app .nil au))])))
theorem alP:Vp prog Xk [(.sl bI)] Xj:=jv func200 {} []
abbrev acP:FuncId:=148
def aaY:VC:=let a1:E:=gX au;let a0:E:=mP a1;let a2:E:=mP a0;(.call [] 100 [(mF,(dJ (.hd au) (aA au) (aM au) (.hd a1) (aA a1) (aM a1) (dJ (cK a1) (.hd a0) (aA a0) (aM a0) (cK a0) (.hd a2) (dK (aA a2) (aM a2) (cK a2) .nil))))] [.bool] (.ret [(.bool,(.ite (.not aB) (.not (cK a2)) bf))]))
theorem aph:Vp prog acP [mF] aaY:=jv func148 {} []
abbrev abI:FuncId:=155
def ZR:VC:=let a3:E:=dW au;let a0:E:=gX a3;let a4:E:=dW aB;let a5:E:=gX a0;let a2:E:=zh6 a5;let a6:E:=.tl (.hd aB);let a1:E:=dW a6;(.call [] 200 [((.sl bI),(p8 a1))] [(.sl bI)] (.call [] 77 [(ay,(.hd a4))] [ay] (.call [] 77 [(ay,(aA a4))] [ay] (.ret [(nR,(oD (dJ (.ite a2 bf (.hd (.hd aB))) (.hd a6) (.ite (.hd au) (aA au) (aA a6)) (.ite (.hd a3) (aA a3) (.hd a1)) (.ite (aM a3) (.hd a0) (aA a1)) (.ite (aA a0) (aM a0) (aM a1)) (fJ (.ite (.hd a5) (aA a5) (cK a1)) aI .nil)) (aA aB) aN aU (.ite a2 aj (aM a4)) .nil))]))))
theorem anZ:Vp prog abI [mF,nR] ZR:=jv func155 {} []
abbrev adN:FuncId:=201
def ab2:VC:=let a0:E:=aBR au;(.loop [aj,.nil] (.cond (aY aB (.len a0)) (.ak [] (bH aB aj) (.ak [] (aY aB (.len a0)) (.ak [] (aP (aF aB aH)) (.jm 0 [(aF aB aH),(.lQ aI (.hd (.idx a0 aB)) (aA (.idx a0 aB)))])))) (.ret [((.mp .i64 ah),aI)])))
theorem aqK:Vp prog adN [mF] ab2:=jv func201 {} []
abbrev acM:FuncId:=202
def aaV:VC:=let a0:E:=aBQ au;(.loop [aj,.nil] (.cond (aY aB (.len a0)) (.ak [] (bH aB aj) (.ak [] (aY aB (.len a0)) (.ak [] (aP (aF aB aH)) (.jm 0 [(aF aB aH),(.lQ aI (.hd (.idx a0 aB)) (aA (.idx a0 aB)))])))) (.ret [((.mp .i64 ay),aI)])))
theorem ape:Vp prog acM [mF] aaV:=jv func202 {} []
abbrev QD:FuncId:=204
def Yo:VC:=(.ret [(ah,(.hd au))])
theorem amo:Vp prog QD [Vx] Yo:=jv func204 {} []
abbrev Xu:FuncId:=203
def Xn:VC:=let a0:E:=.jF aU aR bf;let a1:E:=aY aN (.len au);(.loop [bf,aj,.nil] (.cond a1 (.ak [] (bH aN aj) (.ak [] a1 (.call [] 204 [(Vx,(fJ (.hd (.idx au aN)) (aA (.idx au aN)) .nil))] [ah] (.cond (.ite (.ite (aY aR aH) bn (dh aR uH)) bn (.ite bn a0 a0)) (.ret [(.bool,bf)]) (.ak [] (aP (aF aN aH)) (.jm 0 [aI,(aF aN aH),(.lQ aU aR bn)])))))) (.ret [(.bool,bn)])))
theorem alS:Vp prog Xu [xY,(.fH 204)] Xn:=jv func203 {z8:=[(1,.fH 204)]} []
abbrev ZB:FuncId:=156
def YN:VC:=let a3:VC:=.ret [(xY,.bg),(.bool,bf)];let a8:E:=aF iE aH;let a9:E:=aF dH aH;let a14:E:=aF oU aH;let a15:E:=aF fP aH;let a21:E:=dW au;let a10:E:=gX a21;let a22:E:=.idx aI oU;let a2:E:=.hd a22;let a12:E:=.ite bn (.jF bC a2 .bg) (.jF bC a2 .bg);let a19:E:=.vQ aR a2;let a5:E:=.ite a19 (.ite bn (.jF aR a2 aj) (.jF aR a2 aj)) a2;let a17:E:=bX (fJ a5 (aA a22) .nil) .nil;let a23:E:=bK (aA aB) Ko;let a25:E:=bX (fJ a5 a12 .nil) .nil;let a26:E:=gX a10;let a1:E:=dW a26;let a7:E:=aF (.len (aM a1)) (.len (.hd a1));let a11:E:=cK a1;let a0:E:=dJ (.hd au) (aA au) (.hd a21) (aA a21) (aM a21) (.hd a10) (dJ (aA a10) (aM a10) (.hd a26) (aA a26) (.hd a1) (aA a1) (dK (aM a1) a11 (p8 a1) .nil));let a16:E:=aF a7 (.len (aA a1));let a27:E:=.idx .bg fP;let a4:E:=.hd a27;let a13:E:=.ite bn (.jF aU a4 .bg) (.jF aU a4 .bg);let a20:E:=.vQ aN a4;let a6:E:=.ite a20 (.ite bn (.jF aN a4 aj) (.jF aN a4 aj)) a4;let a18:E:=bX (fJ a6 (aA a27) .nil) .nil;let a24:E:=bX (fJ a6 a13 .nil) .nil;let a28:E:=aY rF (.len (.hd a1));let a29:E:=aY ql (.len (.hd a1));let a30:E:=aY oU (.len aI);(.cond (aA (.hd aB)) (.call [] 30 [(eX,(aA aB)),(ay,(aM aB))] [xY,ah] (.cond (bL aN aj) a3 (.call [] 63 [(mF,a0)] [(.mp .i64 .bool)] (.call [] 201 [(mF,a0)] [(.mp .i64 ah)] (.call [] 202 [(mF,a0)] [(.mp .i64 ay)] (.loop [.bg,bf,.nil,aj,aj] (.cond a30 (.ak [] (bH oU aj) (.ak [] a30 (.cond (.ite bn (.jF aU a2 bf) (.jF aU a2 bf)) (.ak [] (aP a8) (.ak [] (aP a14) (.jm 0 [bU,dH,fP,a8,a14]))) (.cond (.vQ bC a2) (.cond (bL (.len a12) (.len (aA a22))) a3 (.ak [] (aP a8) (.ak [(a19,true)] (aP (aF a8 aH)) (.ak [] (aT (bG (aF (.len fP) (.len a25)) qm) dM) (.ak [] (aP a14) (.jm 0 [bU,dH,(.app fP a25),(.ite a19 (aF a8 aH) a8),a14])))))) (.ak [(a19,true)] (aP a8) (.ak [] (aT (bG (aF (.len fP) (.len a17)) qm) dM) (.ak [] (aP a14) (.jm 0 [bU,dH,(.app fP a17),(.ite a19 a8 iE),a14])))))))) (.ak [] (aP a7) (.ak [] (aP a16) (.cond (bL iE a16) a3 (.ak [] (aT (bG (aF (.len fP) (.len a11)) qm) dM) (.call [] 203 [(xY,(.app fP a11)),((.fH 204),.nil)] [.bool] (.cond (.not nS) a3 (.loop [bU,dH,aj] (.cond a28 (.ak [] (bH rF aj) (.ak [] a28 (.call [] 100 [(mF,a0)] [.bool] (.cond (.ite (.ite (.not Iu) a23 bf) (dh (aA (.idx (.hd a1) rF)) Lr) bf) a3 (.ak [] (aP (aF rF aH)) (.jm 1 [ql,rZ,(aF rF aH)])))))) (.ret [(xY,(.app fP a11)),(.bool,bn)])))))))))))))))) (.call [] 63 [(mF,a0)] [(.mp .i64 .bool)] (.call [] 201 [(mF,a0)] [(.mp .i64 ah)] (.call [] 202 [(mF,a0)] [(.mp .i64 ay)] (.loop [.bg,bf,.nil,aj,aj] (.cond (aY fP aj) (.ak [] (bH fP aj) (.ak [] (aY fP aj) (.cond (.ite bn (.jF aI a4 bf) (.jF aI a4 bf)) (.ak [] (aP a9) (.ak [] (aP a15) (.jm 0 [aR,bC,bU,a9,a15]))) (.cond (.vQ aU a4) (.cond (bL (.len a13) (.len (aA a27))) a3 (.ak [] (aP a9) (.ak [(a20,true)] (aP (aF a9 aH)) (.ak [] (aT (bG (aF (.len bU) (.len a24)) qm) dM) (.ak [] (aP a15) (.jm 0 [aR,bC,(.app bU a24),(.ite a20 (aF a9 aH) a9),a15])))))) (.ak [(a20,true)] (aP a9) (.ak [] (aT (bG (aF (.len bU) (.len a18)) qm) dM) (.ak [] (aP a15) (.jm 0 [aR,bC,(.app bU a18),(.ite a20 a9 dH),a15])))))))) (.ak [] (aP a7) (.ak [] (aP a16) (.cond (bL dH a16) a3 (.ak [] (aT (bG (aF (.len bU) (.len a11)) qm) dM) (.call [] 203 [(xY,(.app bU a11)),((.fH 204),.nil)] [.bool] (.cond (.not iE) a3 (.loop [aR,bC,aj] (.cond a29 (.ak [] (bH ql aj) (.ak [] a29 (.call [] 100 [(mF,a0)] [.bool] (.cond (.ite (.ite (.not rZ) a23 bf) (dh (aA (.idx (.hd a1) ql)) Lr) bf) a3 (.ak [] (aP (aF ql aH)) (.jm 1 [oU,nS,(aF ql aH)])))))) (.ret [(xY,(.app bU a11)),(.bool,bn)])))))))))))))))
theorem amO:Vp prog ZB [mF,nR] YN:=jv func156 {aK:=[(63,[.mp .i64 .bool]),(201,[.mp .i64 ah]),(202,[.mp .i64 ay])]} []
abbrev aau:FuncId:=158
def Zg:VC:=let a1:E:=.idx aN bU;let a4:E:=eF (aA a1) aH;let a5:E:=aF bU aH;let a6:E:=.sub (.ite bn (.jF bC (.hd a1) .bg) (.jF bC (.hd a1) .bg)) aj (eF (.len aI) (aA a1));let a7:E:=eF (aA a1) dU;let a9:E:=gX au;let a2:E:=mP a9;let a10:E:=aT (.len aI) (.len aI);let a11:E:=aT (aA a1) (.len aI);let a12:E:=mP a2;let a0:E:=dJ (.hd au) (aA au) (aM au) (.hd a9) (aA a9) (aM a9) (dJ (cK a9) (.hd a2) (aA a2) (aM a2) (cK a2) (.hd a12) (dK (aA a12) (aM a12) (cK a12) .nil));let a13:E:=bH (aA a1) aj;let a14:E:=.vQ bC (.hd a1);let a15:E:=aY bU (.len aN);let a16:E:=.jF aR (.hd a1) aj;let a3:E:=iF (.ite bn a16 a16);let a8:E:=.set dH a4 (KE (ayo a3 aW) (Bd (.idx dH a4) Lp));(.call [] 2000077 [(ay,(aM aB))] [ay] (.call [] 72 [(eX,(aA aB)),(ay,(aM aB))] [(.sl (.jc ah (.jc ah (.jc ah .je)))),ah] (.call [] 201 [(mF,a0)] [(.mp .i64 ah)] (.call [] 202 [(mF,a0)] [(.mp .i64 ay)] (.loop [aj,aI] (.cond a15 (.ak [] (bH bU aj) (.ak [] a15 (.cond (.vQ aR (.hd a1)) (.cond (bK (aA aB) Ko) (.ak [] (aP a4) (.ak [] (aP a4) (.ak [] (bH a4 aj) (.ak [] (aY a4 (.len aI)) (.ak [] (bH a4 aj) (.ak [] (aY a4 (.len aI)) (.cond a14 (.ak [] a13 (.ak [] a11 (.ak [] a10 (.ak [] (aP a5) (.jm 0 [a5,(.jr a8 (aA a1) a6)]))))) (.ak [] (aP a5) (.jm 0 [a5,a8]))))))))) (.ak [] (aP a7) (.ak [] (bH a7 aj) (.ak [] (aY a7 (.len aI)) (.cond a14 (.ak [] a13 (.ak [] a11 (.ak [] a10 (.ak [] (aP a5) (.jm 0 [a5,(.jr (.set dH a7 a3) (aA a1) a6)]))))) (.ak [] (aP a5) (.jm 0 [a5,(.set dH a7 a3)]))))))) (.cond a14 (.ak [] a13 (.ak [] a11 (.ak [] a10 (.ak [] (aP a5) (.jm 0 [a5,(.jr dH (aA a1) a6)]))))) (.ak [] (aP a5) (.jm 0 [a5,dH])))))) (.ret [(ay,dH)])))))))
theorem ani:Vp prog aau [mF,nR] Zg:=jv func158 {fresh:=[77],aK:=[(201,[.mp .i64 ah]),(202,[.mp .i64 ay])]} []
abbrev acR:FuncId:=120
def aa0:VC:=let a6:E:=oD (dJ bf bf bf aj aj aj (fJ aj .bg .nil)) aj .bg .bg aj .nil;let a1:VC:=.ret [(nR,a6),(ah,Qk)];let a11:E:=gX au;let a5:E:=mP a11;let a13:E:=mP a5;let a0:E:=dJ (.hd au) (aA au) (aM au) (.hd a11) (aA a11) (aM a11) (dJ (cK a11) (.hd a5) (aA a5) (aM a5) (cK a5) (.hd a13) (dK (aA a13) (aM a13) (cK a13) .nil));let a17:E:=dW aU;let a4:E:=fJ (aA a17) (aM a17) .nil;let a18:E:=dW aB;let a19:E:=.tl (.hd aU);let a9:E:=dW a19;let a2:E:=dJ (aA a19) (.hd a9) (aA a9) (aM a9) (cK a9) (p8 a9) .nil;let a8:E:=fJ (.hd (.hd aU)) (.hd a19) a2;let a12:E:=dK a8 (aA aU) (.hd a17) a4;let a14:E:=dK a8 (aA aU) fP a4;let a20:E:=.tl (.hd aB);let a10:E:=dW a20;let a3:E:=oD (dJ (.hd (.hd aB)) (.hd a20) (aA a20) (.hd a10) (aA a10) (aM a10) (fJ (cK a10) (p8 a10) .nil)) (aA aB) (.hd a18) (aA a18) (aM a18) .nil;let a21:E:=dh (.len bC) aj;let a7:E:=fJ (.hd (.hd aU)) a21 a2;let a15:E:=dK a7 fP iE a4;let a16:E:=dK a7 aj .bg a4;(.call [] 154 [(nR,a3)] [.bool] (.cond (.not aI) (.ret [(nR,a6),(ah,aH)]) (.call [] 21 [(mF,a0)] [.bool] (.cond (.not aN) a1 (.call [] 155 [(mF,a0),(nR,a3)] [nR] (.call [] 51 [(mF,a0)] [.bool] (.cond aR (.call [] 156 [(mF,a0),(nR,a3)] [xY,.bool] (.cond (.not bU) a1 (.call [] 100 [(mF,a0)] [.bool] (.cond dH (.cond a21 (.call [] 157 [(xY,bC)] [eX,ay,ah] (.call [] 154 [(nR,a15)] [.bool] (.cond (.not nS) a1 (.ret [(nR,a15),(ah,aj)])))) (.call [] 154 [(nR,a16)] [.bool] (.cond (.not fP) a1 (.ret [(nR,a16),(ah,aj)])))) (.call [] 158 [(mF,a0),(nR,a3)] [ay] (.call [] 154 [(nR,a14)] [.bool] (.cond (.not iE) a1 (.ret [(nR,a14),(ah,aj)])))))))) (.call [] 154 [(nR,a12)] [.bool] (.cond (.not bC) a1 (.ret [(nR,a12),(ah,aj)]))))))))))
theorem apk:Vp prog acR [mF,nR] aa0:=jv func120 {} []
abbrev adP:FuncId:=149
def ab5:VC:=let a2:E:=gX au;let a0:E:=mP a2;let a3:E:=mP a0;let a4:E:=dW aB;let a5:E:=.tl (.hd aB);let a1:E:=dW a5;(.call [] 120 [(mF,(dJ (.hd au) (aA au) (aM au) (.hd a2) (aA a2) (aM a2) (dJ (cK a2) (.hd a0) (aA a0) (aM a0) (cK a0) (.hd a3) (dK (aA a3) (aM a3) (cK a3) .nil)))),(nR,(oD (dJ (.hd (.hd aB)) (.hd a5) (aA a5) (.hd a1) (aA a1) (aM a1) (fJ (cK a1) (p8 a1) .nil)) (aA aB) (.hd a4) (aA a4) (aM a4) .nil))] [nR,ah] (.ret [(.bool,(bK aN aj))]))
theorem aqN:Vp prog adP [mF,nR] ab5:=jv func149 {} []
abbrev aj6:Sh:=.jc ay (.jc ah .je)
abbrev aj7:Sh:=.sl (.jc ah (.jc ay .je))
abbrev aj8:Sh:=.jc ah (.jc ah aj6)
abbrev K7:Sh:=.jc (.jc .bool (.jc .bool (.jc .bool (.jc ah (.jc eX (.jc bI (.jc bI (.jc (.sl bI) .je)))))))) (.jc eX (.jc ay aj6))
abbrev K8:Sh:=.jc .bool (.jc .bool (.jc .bool (.jc ah (.jc .bool (.jc eX (.jc .bool (.jc bI (.jc .bool (.jc bI (.jc (.sl (.jc ah (.jc ah .je))) (.jc aj7 (.jc (.sl ah) (.jc aj7 (.jc .bool .je))))))))))))))
abbrev Pm:Sh:=.jc ay (.jc K8 (.jc .bool (.jc ah .je)))
abbrev JB:FuncId:=73
def JA:VC:=let a0:E:=bH (.idx au aH) aA1;let a1:E:=aY (.len au) dU;let a2:E:=aY aH (.len au);(.ak [(a1,false)] (aY aj (.len au)) (.cond (.ite a1 bn (bL (G8 (.idx au aj) qG) dU)) (.ret [(.kP,.nil)]) (.ak [] a2 (.ak [(a0,true)] a2 (.cond (.ite a0 (aT (.idx au aH) aAV) bf) (.ret [((.dB 223 .je),.nil)]) (.ret [((.dB 224 .je),.nil)]))))))
theorem MC:Vp prog JB [ay] JA:=jv func73 {} []
abbrev Yd:FuncId:=277
def XV:VC:=(.call [] 13 [(ay,aB)] [K7,ah] (.ret [(ah,aN)]))
theorem ama:Vp prog Yd [.je,ay] XV:=jv func277 {} []
abbrev QV:FuncId:=31
def QI:VC:=(.cond (dh (.len au) zD) (.ret [(ah,iZ),(ah,aW)]) (.cond (aY (.len au) dU) (.ret [(ah,iZ),(ah,dU)]) (.call [] 73 [(ay,au)] [(.dB 224 .je)] (.call [] 277 [(.je,aB),(ay,au)] [ah] (.cond (bL aI aj) (.ret [(ah,iZ),(ah,aI)]) (.call [] 74 [((.dB 224 .je),aB)] [ah] (.ret [(ah,aN),(ah,aj)])))))))
theorem YX:Vp prog QV [ay] QI:=jv func31 {aK:=[(73,[.dB 224 .je])]} []
abbrev acD:FuncId:=76
def aaM:VC:=let a3:E:=gX au;let a0:E:=mP a3;let a4:E:=mP a0;let a5:E:=dW aR;let a6:E:=dW aN;let a7:E:=.tl (.hd aR);let a1:E:=dW a7;let a8:E:=.tl (.hd aN);let a2:E:=dW a8;(.call [] 13 [(ay,aB)] [K7,ah] (.cond (bL aU aj) (.ret [(ay,.bg),(ah,aU)]) (.call [] 120 [(K8,(dJ (.hd au) (aA au) (aM au) (.hd a3) (aA a3) (aM a3) (dJ (cK a3) (.hd a0) (aA a0) (aM a0) (cK a0) (.hd a4) (dK (aA a4) (aM a4) (cK a4) .nil)))),(K7,(oD (dJ (.hd (.hd aN)) (.hd a8) (aA a8) (.hd a2) (aA a2) (aM a2) (fJ (cK a2) (p8 a2) .nil)) (aA aN) (.hd a6) (aA a6) (aM a6) .nil))] [K7,ah] (.cond (bL bC aj) (.ret [(ay,.bg),(ah,bC)]) (.call [] 121 [(K7,(oD (dJ (.hd (.hd aR)) (.hd a7) (aA a7) (.hd a1) (aA a1) (aM a1) (fJ (cK a1) (p8 a1) .nil)) (aA aR) (.hd a5) (aA a5) (aM a5) .nil)),(ah,aI)] [ay,ah] (.ret [(ay,bU),(ah,dH)]))))))
theorem ao5:Vp prog acD [K8,ay,ah] aaM:=jv func76 {} []
abbrev acT:FuncId:=32
def aa2:VC:=let a4:VC:=.ret [(ay,aB),(ah,aI)];let a5:E:=aA au;let a2:E:=dW a5;let a1:E:=mP a2;let a3:E:=mP a1;let a0:E:=dJ (.hd a5) (aA a5) (.hd a2) (aA a2) (aM a2) (cK a2) (dJ (.hd a1) (aA a1) (aM a1) (cK a1) (.hd a3) (aA a3) (dK (aM a3) (cK a3) (p8 a3) .nil));(.cond (aM au) (.call [] 75 [(K8,a0),(ay,(.hd au))] [ay,ah] a4) (.call [] 76 [(K8,a0),(ay,(.hd au)),(ah,(cK au))] [ay,ah] a4))
theorem apm:Vp prog acT [Pm] aa2:=jv func32 {} []
abbrev QW:FuncId:=10
def QJ:VC:=let a3:VC:=.ret [(aj8,(dS aB aI .bg aj .nil))];let a6:E:=.ite (bL aU aj) .bg aN;let a2:VC:=.ret [(aj8,(dS aB aU a6 (.len a6) .nil))];let a7:E:=aA au;let a4:E:=dW a7;let a1:E:=mP a4;let a5:E:=mP a1;let a0:E:=dS (.hd au) (dJ (.hd a7) (aA a7) (.hd a4) (aA a4) (aM a4) (cK a4) (dJ (.hd a1) (aA a1) (aM a1) (cK a1) (.hd a5) (aA a5) (dK (aM a5) (cK a5) (p8 a5) .nil))) (aM au) (cK au) .nil;(.call [] 31 [(ay,(.hd au))] [ah,ah] (.cond (bL aI aj) a3 (.cond (bK aB aH) (.call [] 32 [(Pm,a0)] [ay,ah] a2) (.cond (bK aB dU) (.call [] 33 [(Pm,a0)] [ay,ah] a2) a3))))
theorem YZ:Vp prog QW [Pm] QJ:=jv func10 {} []
abbrev Vy:Sh:=.jc ah (.jc ah (.jc ah .je))
abbrev gT:Sh:=.sl Vy
abbrev adH:FuncId:=1000193
def Rk:VC:=(.cond (dh (.len au) aj) (.ak [] (aP (eF (.len au) aH)) (.ak [] (bH (eF (.len au) aH) aj) (.ak [] (aY (eF (.len au) aH) (.len au)) (.ak [] (aP (aF (aA (.idx au (eF (.len au) aH))) (aM (.idx au (eF (.len au) aH))))) (.loop [au,(aF (aA (.idx au (eF (.len au) aH))) (aM (.idx au (eF (.len au) aH)))),aj] (.cond (aY aR (.len aI)) (.ak [] (bH aR aj) (.ak [] (aY aR (.len aI)) (.cond (dh (.idx aI aR) aj) (.ak [] (aT (bG (aF (.len aN) (.len (bX (dK aB aU (.idx aI aR) .nil) .nil))) uO) dM) (.ak [] (aP (aF aU (.idx aI aR))) (.ak [] (aP (aF aR aH)) (.jm 0 [(.app aN (bX (dK aB aU (.idx aI aR) .nil) .nil)),(aF aU (.idx aI aR)),(aF aR aH)])))) (.ak [] (aP (aF aR aH)) (.jm 0 [aN,aU,(aF aR aH)]))))) (.ret [(gT,aN)]))))))) (.loop [au,aj,aj] (.cond (aY aR (.len aI)) (.ak [] (bH aR aj) (.ak [] (aY aR (.len aI)) (.cond (dh (.idx aI aR) aj) (.ak [] (aT (bG (aF (.len aN) (.len (bX (dK aB aU (.idx aI aR) .nil) .nil))) uO) dM) (.ak [] (aP (aF aU (.idx aI aR))) (.ak [] (aP (aF aR aH)) (.jm 0 [(.app aN (bX (dK aB aU (.idx aI aR) .nil) .nil)),(aF aU (.idx aI aR)),(aF aR aH)])))) (.ak [] (aP (aF aR aH)) (.jm 0 [aN,aU,(aF aR aH)]))))) (.ret [(gT,aN)]))))
theorem anO:KA prog true {} [] Tryz.f193=([gT,ah,(.sl ah)],Rk):=by kernel_rfl
theorem aqV{c0 c1:C}{args aK:List (Sh×C)}(hs:args.map (·.1)=[ah,(.sl ah)])(h:Rk.holds prog (fun r=>r=(gT,c1)::aK) [] (c0::args.map (·.2))):PC prog adH ((gT,c0)::args) ((gT,c1)::aK):=PC.VY (f:=193) (by decide) func193 (by kernel_rfl) anO hs h
abbrev aeJ:FuncId:=150
def adl:VC:=let a1:E:=bX aH .nil;let a2:E:=dW aB;let a0:E:=eF (aM a2) aH;let a3:E:=bX aW .nil;let a4:E:=bX dU .nil;let a5:E:=bX (.len (aA a2)) .nil;(.call [] 13 [(ay,au)] [(.jc (.jc .bool (.jc .bool (.jc .bool (.jc ah (.jc eX (.jc bI (.jc bI (.jc (.sl bI) .je)))))))) (.jc eX (.jc ay (.jc ay (.jc ah .je))))),ah] (.cond (bL aI aj) (.ret [(gT,.bg),(ah,aI)]) (.call [] 1000193 [(gT,.bg),(ah,aH),((.sl ah),a1)] [gT] (.call [] 1000193 [(gT,aN),(ah,dU),((.sl ah),a1)] [gT] (.call [] 1000193 [(gT,aU),(ah,iZ),((.sl ah),a4)] [gT] (.call [] 1000193 [(gT,aR),(ah,aW),((.sl ah),a3)] [gT] (.call [] 1000193 [(gT,bC),(ah,uf),((.sl ah),a3)] [gT] (.loop [bU,aj] (.cond (aY fP (.len (zh7 (.hd aB)))) (.call [] 1000193 [(gT,dH),(ah,qG),((.sl ah),a3)] [gT] (.ak [] (aP (aF fP aH)) (.jm 0 [iE,(aF fP aH)]))) (.cond (aA (.hd aB)) (.call [] 1000193 [(gT,dH),(ah,D8),((.sl ah),a4)] [gT] (.call [] 1000193 [(gT,iE),(ah,dX),((.sl ah),a4)] [gT] (.call [] 1000193 [(gT,oU),(ah,Qk),((.sl ah),(bX (.len (.hd a2)) .nil))] [gT] (.call [] 1000193 [(gT,nS),(ah,Ls),((.sl ah),a5)] [gT] (.cond (.hd (.hd aB)) (.ak [] (aP a0) (.call [] 1000193 [(gT,ql),(ah,akB),((.sl ah),(bX a0 .nil))] [gT] (.call [] 1000193 [(gT,rZ),(ah,vO),((.sl ah),a1)] [gT] (.ret [(gT,rF),(ah,aj)])))) (.ret [(gT,ql),(ah,aj)])))))) (.call [] 1000193 [(gT,dH),(ah,Ls),((.sl ah),a5)] [gT] (.cond (.hd (.hd aB)) (.ak [] (aP a0) (.call [] 1000193 [(gT,iE),(ah,akB),((.sl ah),(bX a0 .nil))] [gT] (.call [] 1000193 [(gT,oU),(ah,vO),((.sl ah),a1)] [gT] (.ret [(gT,nS),(ah,aj)])))) (.ret [(gT,iE),(ah,aj)])))))))))))))
theorem asl:Vp prog aeJ [ay] adl:=jv func150 {grow:=[193]} []
abbrev acS:FuncId:=152
def aa1:VC:=let a0:VC:=.ret [(Vy,(dK aj aj aj .nil)),(ah,dX)];let a1:E:=aF aR aH;let a2:E:=.idx au aR;let a3:E:=aY aR (.len au);(.cond (aY aI aj) a0 (.loop [aI,aj,aj,aj,aj,aj] (.cond a3 (.ak [] (bH aR aj) (.ak [] a3 (.cond (bL (.hd a2) aB) (.ak [] (aP a1) (.jm 0 [aN,aU,a1,bC,bU,dH])) (.cond (bK aN aj) (.ret [(Vy,(dK (.hd a2) (aA a2) (aM a2) .nil)),(ah,aj)]) (.ak [] (aP (eF aN aH)) (.ak [] (aP a1) (.jm 0 [(eF aN aH),aU,a1,bC,bU,dH]))))))) a0)))
theorem apl:Vp prog acS [gT,ah,ah] aa1:=jv func152 {} []
abbrev aj4:Sh:=.jc ay (.jc ah .je)
abbrev Vu:Sh:=.sl (.jc ah (.jc ay .je))
abbrev aj5:Sh:=.jc .bool (.jc .bool (.jc .bool (.jc ah (.jc .bool (.jc eX (.jc .bool (.jc bI (.jc .bool (.jc bI (.jc (.sl (.jc ah (.jc ah .je))) (.jc Vu (.jc (.sl ah) (.jc Vu (.jc .bool .je))))))))))))))
abbrev Yj:FuncId:=7
def X7:VC:=let a0:E:=.ite (.ite (.ite (.ite (.ite (bK aB aj) (bK (aA aI) aj) bf) (bK aU aj) bf) (bK bC aj) bf) (bK (p8 (.hd aN)) uf) bf) (bK (.len aR) aH) bf;let a2:E:=gX au;let a1:E:=mP a2;let a3:E:=.ite a0 (bK (.hd (.idx aR aj)) aW) bf;let a4:E:=mP a1;let a5:E:=aY aj (.len aR);(.call [] 18 [(.str,(.str [115,101,113,32,53,32,109,97,112,32,51,32,52,32,111,118,101,114,32,51,32,34,120,34]))] [aj5,ah] (.call [] 10 [((.jc ay (.jc aj5 (.jc .bool (.jc ah .je)))),(dS (dJ aA3 aBK aj aH aj aj (dJ aj dU aj aj aj iZ (dJ aA2 aAW aj aH aBN D8 (dK aj aj Qk .nil)))) (dJ (.hd au) (aA au) (aM au) (.hd a2) (aA a2) (aM a2) (dJ (cK a2) (.hd a1) (aA a1) (aM a1) (cK a1) (.hd a4) (dK (aA a4) (aM a4) (cK a4) .nil))) bn aj .nil))] [(.jc ah (.jc ah aj4))] (.call [] 13 [(ay,(aM aI))] [(.jc (.jc .bool (.jc .bool (.jc .bool (.jc ah (.jc eX (.jc bI (.jc bI (.jc (.sl bI) .je)))))))) (.jc eX (.jc ay aj4))),ah] (.call [] 30 [(eX,(aA aN)),(ay,(aM aN))] [Vu,ah] (.ak [(a0,true)] a5 (.ak [(a3,true)] a5 (.ret [(.bool,(.ite (.ite a3 (.tX .eql (.jk (aA (.idx aR aj))) (.str [120])) bf) (.tX .eql (.jk (cK aN)) (.str [9])) bf))])))))))
theorem amg:Vp prog Yj [] X7:=jv func7 {} []
end Go.Vc
