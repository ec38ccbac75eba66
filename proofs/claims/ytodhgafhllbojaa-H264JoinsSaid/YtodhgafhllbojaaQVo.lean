/-
  The conditions of some functions of the program, written by program (genvc.py), each with its equation.
-/
import Derived.Test.YtodhgafhllbojaaQBase3
import Derived.Test.YtodhgafhllbojaaChecked
set_option maxRecDepth 100000
namespace Go.Vc
open Go Go.Proofs
abbrev f_octet_span : FuncId := 37
def vc_octet_span : VC := (.asrt [((.cmp .gtr (.var 1) (.var 0)), false)] (.fits .i64 (.raw .sub (.var 0) (.var 1))) (.cond (.ite (.cmp .gtr (.var 1) (.var 0)) (.bool true) (.cmp .gtr (.var 2) (.raw .sub (.var 0) (.var 1)))) (.ret [((.int .i64), (.int 2))]) (.ret [((.int .i64), (.int 0))])))
theorem vc_octet_span_eq : autoVC Try.prog true {} [] Try.f37 = ([(.int .i64), (.int .i64), (.int .i64)], vc_octet_span) := by kernel_rfl
theorem pcv_octet_span {args rets : List (Sh × C)} (hs : args.map (·.1) = [(.int .i64), (.int .i64), (.int .i64)]) (h : vc_octet_span.holds Try.prog (fun r => r = rets) [] (args.map (·.2))) : PC Try.prog f_octet_span args rets := PC.auto (by decide) Try.func37 (by kernel_rfl) vc_octet_span_eq hs h
abbrev f_octet_Get : FuncId := 36
def vc_octet_Get : VC := (.cond (.ite (.ite (.cmp .lss (.var 2) (.int 1)) (.bool true) (.cmp .gtr (.var 2) (.int 8))) (.bool true) (.cmp .lss (.var 1) (.int 0))) (.ret [((.int .u64), (.int 0)), ((.int .i64), (.int 1))]) (.call [] 37 [((.int .i64), (.len (.var 0))), ((.int .i64), (.var 1)), ((.int .i64), (.var 2))] [(.int .i64)] (.cond (.cmp .neq (.var 3) (.int 0)) (.ret [((.int .u64), (.int 0)), ((.int .i64), (.var 3))]) (.asrt [] (.fits .i64 (.raw .add (.var 1) (.var 2))) (.asrt [] (.cmp .geq (.var 1) (.int 0)) (.asrt [] (.cmp .leq (.var 1) (.raw .add (.var 1) (.var 2))) (.asrt [] (.cmp .leq (.raw .add (.var 1) (.var 2)) (.len (.var 0))) (.loop [(.int 0), (.int 0)] (.cond (.cmp .lss (.var 5) (.len (.sub (.var 0) (.var 1) (.raw .add (.var 1) (.var 2))))) (.asrt [] (.cmp .geq (.var 5) (.int 0)) (.asrt [] (.cmp .lss (.var 5) (.len (.sub (.var 0) (.var 1) (.raw .add (.var 1) (.var 2))))) (.asrt [] (.fits .i64 (.raw .add (.var 5) (.int 1))) (.back 0 [(.bin .or .u64 (.bin .shl .u64 (.var 4) (.int 8)) (.conv .u64 (.idx (.sub (.var 0) (.var 1) (.raw .add (.var 1) (.var 2))) (.var 5)))), (.raw .add (.var 5) (.int 1))])))) (.ret [((.int .u64), (.var 4)), ((.int .i64), (.int 0))]))))))))))
theorem vc_octet_Get_eq : autoVC Try.prog true {} [] Try.f36 = ([(.sl (.int .u8)), (.int .i64), (.int .i64)], vc_octet_Get) := by kernel_rfl
theorem pcv_octet_Get {args rets : List (Sh × C)} (hs : args.map (·.1) = [(.sl (.int .u8)), (.int .i64), (.int .i64)]) (h : vc_octet_Get.holds Try.prog (fun r => r = rets) [] (args.map (·.2))) : PC Try.prog f_octet_Get args rets := PC.auto (by decide) Try.func36 (by kernel_rfl) vc_octet_Get_eq hs h
abbrev f_octet_bytesOf : FuncId := 35
def vc_octet_bytesOf : VC := (.asrt [] (.cmp .geq (.var 1) (.int 0)) (.asrt [] (.cmp .leq (.var 1) (.var 1)) (.asrt [] (.cmp .leq (.raw .mul (.int 1) (.var 1)) (.int 281474976710656)) (.asrt [] (.fits .i64 (.raw .sub (.var 1) (.int 1))) (.loop [(.var 0), (.raw .sub (.var 1) (.int 1)), (.rep (.var 1) (.int 0))] (.cond (.cmp .geq (.var 3) (.int 0)) (.asrt [] (.cmp .geq (.var 3) (.int 0)) (.asrt [] (.cmp .lss (.var 3) (.var 1)) (.asrt [] (.fits .i64 (.raw .sub (.var 3) (.int 1))) (.back 0 [(.bin .shr .u64 (.var 2) (.int 8)), (.raw .sub (.var 3) (.int 1)), (.set (.var 4) (.var 3) (.conv .u8 (.var 2)))])))) (.ret [((.sl (.int .u8)), (.var 4))])))))))
theorem vc_octet_bytesOf_eq : autoVC Try.prog true {} [] Try.f35 = ([(.int .u64), (.int .i64)], vc_octet_bytesOf) := by kernel_rfl
theorem pcv_octet_bytesOf {args rets : List (Sh × C)} (hs : args.map (·.1) = [(.int .u64), (.int .i64)]) (h : vc_octet_bytesOf.holds Try.prog (fun r => r = rets) [] (args.map (·.2))) : PC Try.prog f_octet_bytesOf args rets := PC.auto (by decide) Try.func35 (by kernel_rfl) vc_octet_bytesOf_eq hs h
abbrev f_octet_Put : FuncId := 26
def vc_octet_Put : VC := (.cond (.ite (.cmp .lss (.var 1) (.int 1)) (.bool true) (.cmp .gtr (.var 1) (.int 8))) (.ret [((.sl (.int .u8)), .nilS), ((.int .i64), (.int 1))]) (.asrt [((.cmp .lss (.var 1) (.int 8)), true)] (.fits .i64 (.raw .mul (.int 8) (.var 1))) (.asrt [((.cmp .lss (.var 1) (.int 8)), true)] (.cmp .geq (.conv .u64 (.raw .mul (.int 8) (.var 1))) (.int 0)) (.cond (.ite (.cmp .lss (.var 1) (.int 8)) (.cmp .neq (.bin .shr .u64 (.var 0) (.conv .u64 (.raw .mul (.int 8) (.var 1)))) (.int 0)) (.bool false)) (.ret [((.sl (.int .u8)), .nilS), ((.int .i64), (.int 6))]) (.call [] 35 [((.int .u64), (.var 0)), ((.int .i64), (.var 1))] [(.sl (.int .u8))] (.ret [((.sl (.int .u8)), (.var 2)), ((.int .i64), (.int 0))]))))))
theorem vc_octet_Put_eq : autoVC Try.prog true {} [] Try.f26 = ([(.int .u64), (.int .i64)], vc_octet_Put) := by kernel_rfl
theorem pcv_octet_Put {args rets : List (Sh × C)} (hs : args.map (·.1) = [(.int .u64), (.int .i64)]) (h : vc_octet_Put.holds Try.prog (fun r => r = rets) [] (args.map (·.2))) : PC Try.prog f_octet_Put args rets := PC.auto (by decide) Try.func26 (by kernel_rfl) vc_octet_Put_eq hs h
abbrev f_bytes_Clone : FuncId := 34
def vc_bytes_Clone : VC := (.amb (.var 0) (.ret [((.sl (.int .u8)), .nilS)]) (.asrt [] (.cmp .leq (.raw .mul (.raw .add (.int 0) (.len (.var 0))) (.int 1)) (.int 140737488355328)) (.ret [((.sl (.int .u8)), (.app .nil (.var 0)))])))
theorem vc_bytes_Clone_eq : autoVC Try.prog true {} [] Try.f34 = ([(.sl (.int .u8))], vc_bytes_Clone) := by kernel_rfl
theorem pcv_bytes_Clone {args rets : List (Sh × C)} (hs : args.map (·.1) = [(.sl (.int .u8))]) (h : vc_bytes_Clone.holds Try.prog (fun r => r = rets) [] (args.map (·.2))) : PC Try.prog f_bytes_Clone args rets := PC.auto (by decide) Try.func34 (by kernel_rfl) vc_bytes_Clone_eq hs h
abbrev f_bytes_Equal : FuncId := 33
def vc_bytes_Equal : VC := (.ret [(.bool, (.scmp .eql (.toStr (.var 0)) (.toStr (.var 1))))])
theorem vc_bytes_Equal_eq : autoVC Try.prog true {} [] Try.f33 = ([(.sl (.int .u8)), (.sl (.int .u8))], vc_bytes_Equal) := by kernel_rfl
theorem pcv_bytes_Equal {args rets : List (Sh × C)} (hs : args.map (·.1) = [(.sl (.int .u8)), (.sl (.int .u8))]) (h : vc_bytes_Equal.holds Try.prog (fun r => r = rets) [] (args.map (·.2))) : PC Try.prog f_bytes_Equal args rets := PC.auto (by decide) Try.func33 (by kernel_rfl) vc_bytes_Equal_eq hs h
end Go.Vc
