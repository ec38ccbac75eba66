/-
  What the listed tables hold is what the contracts lean on; the laws out of the walks of Quote and loosen.
-/
import Derived.Test.YtodhgafhllbojaaDoorQTt
import Derived.Test.YtodhgafhllbojaaDoorQTq
import Derived.Test.YtodhgafhllbojaaDoorRows
import Derived.Lib.LaidU8
import Derived.PinnedBridge
set_option maxRecDepth 100000
namespace Go.Vc
open Go Go.Proofs Go.Plain Go.Lib
theorem u8extra : U8Extra Tryd.prog Tryd.lays260_ren := ⟨by kernel_rfl, by kernel_rfl, by kernel_rfl, by kernel_rfl, by kernel_rfl, by kernel_rfl, by kernel_rfl⟩
theorem kw_of_tabs {W : World} (h : Lib.Utf8Tabs 0 1 W) : KW Tryd.prog W := by
  intro x hx g hg
  simp only [tabs, List.mem_cons, List.mem_nil_iff, or_false] at hx
  rcases hx with rfl | rfl
  · obtain rfl : 0 = g := Option.some.inj (tab_first.symm.trans hg)
    intro j u hu
    rw [List.getElem?_map] at hu
    obtain ⟨c, hc, rfl⟩ := Option.map_eq_some_iff.1 hu
    obtain ⟨hj, rfl⟩ := List.getElem?_eq_some_iff.1 hc
    simp only [List.length_range] at hj
    simp only [List.getElem_range]
    rw [Nat.zero_add, h.1 j hj, first_eq ⟨j, hj⟩]
  · obtain rfl : 1 = g := Option.some.inj (tab_accept.symm.trans hg)
    intro j u hu
    rw [List.getElem?_map] at hu
    obtain ⟨c, hc, rfl⟩ := Option.map_eq_some_iff.1 hu
    have hj : j < 32 := (List.getElem?_eq_some_iff.1 hc).1
    have ha := accept_eq ⟨j / 2, by omega⟩
    have hh := h.2 (j / 2) (by omega)
    rw [Nat.zero_add]
    rcases Nat.mod_two_eq_zero_or_one j with h0 | h0
    · have e : 2 * (j / 2) = j := by omega
      simp only [e] at ha hh
      rw [hh.1]
      have := ha.1.symm.trans hc
      rw [Option.some.inj this]
    · have e : 2 * (j / 2) + 1 = j := by omega
      simp only [e] at ha hh
      rw [hh.2]
      have := ha.2.symm.trans hc
      rw [Option.some.inj this]
theorem accept_data : (YtodhgafhllbojaaDoor.Rows.laid_unicode_utf8_acceptRanges : DataW Unit) = acceptData := by kernel_rfl
theorem kw_row {W : World} (h : laidMet Tryd.prog [("unicode/utf8.acceptRanges", YtodhgafhllbojaaDoor.Rows.laid_unicode_utf8_acceptRanges), ("unicode/utf8.first", YtodhgafhllbojaaDoor.Rows.laid_unicode_utf8_first)] W) : KW Tryd.prog W := by
  have h1 := Lib.laidMet.reads h (n := "unicode/utf8.first") (d := firstData) (by rw [← Pinned.utf8First_eq]; exact .tail _ (.head _))
  have h2 := Lib.laidMet.reads h (n := "unicode/utf8.acceptRanges") (d := acceptData) (by rw [← accept_data]; exact .head _)
  exact kw_of_tabs (utf8Tabs_of_reads (ρ := Tryd.lays260_ren) Tryd.lays260 u8extra h1 h2)
theorem law_TextRight (cs : List C) (h : TyAll [.str] cs) : PC Tryd.prog f_crossbarlaw04_TextRight ([.str].zip cs) [(.bool, .bool true)] := law_TextRight' quoteOk loosenOk cs h
theorem law_TextBack (cs : List C) (h : TyAll [.str, .str, .str] cs) : PC Tryd.prog f_crossbarlaw04_TextBack ([.str, .str, .str].zip cs) [(.bool, .bool true)] := law_TextBack' quoteOk loosenOk cs h
theorem law_TextMay (cs : List C) (h : TyAll [.str, .str] cs) : PC Tryd.prog f_crossbarlaw04_TextMay ([.str, .str].zip cs) [(.bool, .bool true)] := law_TextMay' quoteOk loosenOk cs h
end Go.Vc
