/-
  The contract of the library's decoder, out of the shelf's; it leans on two tables.
-/
import Derived.Test.YtodhgafhllbojaaDoorQShelfT
import Derived.Test.YtodhgafhllbojaaDoorChecked
import Derived.Test.YtodhgafhllbojaaDoorQBase3
import Derived.Test.YtodhgafhllbojaaDoorQBase1
set_option maxRecDepth 100000
namespace Go.Vc
open Go Go.Proofs Go.Plain
theorem tab_first : tabAt Tryd.prog "unicode/utf8.first" = some 0 := by kernel_rfl
theorem tab_accept : tabAt Tryd.prog "unicode/utf8.acceptRanges" = some 1 := by kernel_rfl
theorem first_eq : ∀ c : Fin 256, tFirst c.1 = Lib.firstT c.1 := by decide +kernel
theorem accept_eq : ∀ i : Fin 16, tAccept[2 * i.1]? = some (Lib.accLo i.1 : Int) ∧ tAccept[2 * i.1 + 1]? = some (Lib.accHi i.1 : Int) := by decide +kernel
theorem kw_tabs {w : World} (h : KW Tryd.prog w) : Lib.Utf8Tabs 0 1 w := by
  have h1 := h.1 (_, _) (List.mem_cons_self) 0 tab_first
  have h2 := h.1 (_, _) (List.mem_cons_of_mem _ List.mem_cons_self) 1 tab_accept
  refine ⟨fun c hc => ?_, fun i hi => ⟨?_, ?_⟩⟩
  · have := h1 c (.int .u8 (tFirst c)) (by simp [hc])
    rw [Nat.zero_add] at this
    rw [this, first_eq ⟨c, hc⟩]
  · have := h2 (2 * i) (.int .u8 (Lib.accLo i)) (by rw [List.getElem?_map, (accept_eq ⟨i, hi⟩).1]; rfl)
    rwa [Nat.zero_add] at this
  · have := h2 (2 * i + 1) (.int .u8 (Lib.accHi i)) (by rw [List.getElem?_map, (accept_eq ⟨i, hi⟩).2]; rfl)
    rwa [Nat.zero_add] at this
theorem decodeGo_eq {s : List UInt8} (h : s ≠ []) : Lib.decodeGo ⟨s.toArray⟩ = Lib.decodeL s := by
  unfold Lib.decodeGo Lib.decodeL
  rw [if_neg (by cases s with | nil => exact absurd rfl h | cons x t => simp [ByteArray.size])]
abbrev f_utf8_DecodeRuneInString : FuncId := 70
theorem pc_decode (s : List UInt8) (hs : s ≠ []) : PC Tryd.prog f_utf8_DecodeRuneInString [(.str, .str s)] [(.int .i32, .int ((Lib.decodeL s).1 : Nat)), (.int .i64, .int ((Lib.decodeL s).2 : Nat))] := by
  refine PC.of0 (by decide) ⟨⟨_, Tryd.func70, by kernel_rfl, by kernel_rfl⟩, fun w N vs hkw hrd => ?_⟩
  obtain ⟨v, r, rfl, ⟨us, hu, rfl⟩, hr⟩ := hrd
  simp only [RdVs] at hr
  subst hr
  simp only [Rd] at hu
  subst hu
  have hc := Tryd.utf8_DecodeRuneInString ⟨s.toArray⟩ w (kw_tabs hkw)
  rw [decodeGo_eq hs] at hc
  refine hc.mono fun e w' ⟨he, hb⟩ => ⟨_, he, ⟨[.int .i32 ((Lib.decodeL s).1 : Nat), .int .i64 ((Lib.decodeL s).2 : Nat)], ⟨_, _, rfl, ⟨_, rfl, rfl⟩, _, _, rfl, ⟨_, rfl, rfl⟩, rfl⟩, ?_⟩, hb⟩
  simp
end Go.Vc
