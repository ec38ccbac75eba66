/-
  The contract of Parse.
-/
import Derived.Test.YtodhgafhllbojaaDoorQZd
import Derived.Test.YtodhgafhllbojaaDoorQZb
import Derived.Test.YtodhgafhllbojaaDoorQVcs1
import Derived.Test.YtodhgafhllbojaaDoorQZe
set_option maxRecDepth 100000
namespace Go.Vc
open Go Go.Proofs Go.RowKit Go.Plain
abbrev f_say_Parse : FuncId := 29
theorem pc_say_Parse (s : List UInt8) (hs : s.length ≤ 1000000) : PC Tryd.prog f_say_Parse [(.str, .str s)] [(PlSh, PlC ((parseBy grpS s).getD Pl.zero)), (I64, .int (if (parseBy grpS s).isSome then 0 else 6))] := by
  refine PC.of0 (by decide) ⟨⟨_, Tryd.func29, by kernel_rfl, by kernel_rfl⟩, fun w N vs hkw hrd => ?_⟩
  obtain ⟨v, r, rfl, ⟨us, hu, rfl⟩, hr⟩ := hrd
  simp only [RdVs] at hr
  subst hr
  simp only [Rd] at hu
  subst hu
  refine (parse_walk w hkw s hs _ rfl).mono fun e w' ⟨cs, he, hrd, hb⟩ => ⟨_, he, ⟨[.agg cs, .int .i64 (if (parseBy grpS s).isSome then 0 else 6)], ⟨_, _, rfl, ⟨cs.toList, hrd.mono (Nat.le_refl _) fun b h _ => ⟨rfl, .inr h⟩, rfl⟩, ⟨_, _, rfl, ⟨_, rfl, rfl⟩, rfl⟩⟩, rfl⟩, hb⟩
end Go.Vc
