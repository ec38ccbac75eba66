/-
  Contracts of functions of the program, each out of its condition or by a walk, and plain lemmas.
-/
import Derived.Test.YtaehhpempnelhaaGreatDoorQTx3
import Derived.Test.YtaehhpempnelhaaGreatDoorQZb0
import Derived.Test.YtaehhpempnelhaaGreatDoorQTx1
import Derived.Test.YtaehhpempnelhaaGreatDoorQZd
import Derived.Test.YtaehhpempnelhaaGreatDoorQBase3
set_option maxRecDepth 100000
namespace Go.Vc
open Go Go.Proofs Go.Plain
open Go.Lib (decDigits nDigits)
end Go.Vc
namespace Go.Vc
open Go Go.Proofs Go.Plain
open Go.Lib (decDigits nDigits)
end Go.Vc
namespace Go.Vc
open Go Go.Proofs Go.Plain
open Go.Lib (decDigits nDigits)
end Go.Vc
namespace Go.Vc
open Go Go.Proofs Go.RowKit Go.Plain
abbrev akG:FuncId:=18
theorem ajG(s:List UInt8)(hs:s.length<=1000000):PC Tryz.prog akG [(.str,.str s)] [(eu,eD ((xD vT s).getD Pl.zero)),(I64,.int (if (xD vT s).isSome then 0 else 6))]:=by
 refine PC.oF (by decide) ⟨⟨_,Tryz.func18,by kernel_rfl,by kernel_rfl⟩,fun w N vs aL hrd=>?_⟩;obtain ⟨v,r,rfl,⟨us,hu,rfl⟩,hr⟩:=hrd;simp only[dH] at hr;subst hr;simp only[Rd] at hu;subst hu;refine (alv w aL s hs _ rfl).mono fun e w' ⟨cs,he,hrd,hb⟩=>⟨_,he,⟨[.agg cs,.int .i64 (if (xD vT s).isSome then 0 else 6)],⟨_,_,rfl,⟨cs.toList,hrd.mono (aI _) fun b h _=>⟨rfl,.inr h⟩,rfl⟩,⟨_,_,rfl,⟨_,rfl,rfl⟩,rfl⟩⟩,rfl⟩,hb⟩
end Go.Vc
namespace Go.Vc
open Go Go.Proofs Go.Plain
end Go.Vc
