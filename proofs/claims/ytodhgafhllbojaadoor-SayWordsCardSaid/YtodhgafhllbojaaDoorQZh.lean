/-
  What the listed tables hold is what the contracts lean on (say's rows).
-/
import Derived.Test.YtodhgafhllbojaaDoorQZf
import Derived.Test.YtodhgafhllbojaaDoorRows
import Derived.Lib.LaidU8
import Derived.PinnedBridge
set_option maxRecDepth 100000
namespace Go.Vc
open Go Go.Proofs Go.Plain Go.Lib
theorem u8extra : U8Extra Tryd.prog Tryd.lays260_ren := ⟨by kernel_rfl, by kernel_rfl, by kernel_rfl, by kernel_rfl, by kernel_rfl, by kernel_rfl, by kernel_rfl⟩
theorem kw_of_tabs {W : World} (h : Lib.Utf8Tabs 0 1 W) : ∀ x ∈ tabs, ∀ g, tabAt Tryd.prog x.1 = some g → CellsAt W g 0 x.2 := by
  intro x hx g hg
  simp only [tabs, List.mem_cons, List.mem_nil_iff, or_false] at hx
  rcases hx with rfl | rfl
  · obtain rfl : 0 = g := Option.some.inj (tab_first.symm.trans hg)
    intro j u hu
    rw [List.getElem?_map] at hu
    obtain ⟨c, hc, rfl⟩ := Option.map_eq_some_iff.1 hu
    obtain ⟨hj, rfl⟩ := List.getElem?_eq_some_iff.1 hc
    simp only [List.length_range] at hj
    simp only [List.getElem_range]
    rw [Nat.zero_add, h.1 j hj, first_eq ⟨j, hj⟩]
  · obtain rfl : 1 = g := Option.some.inj (tab_accept.symm.trans hg)
    intro j u hu
    rw [List.getElem?_map] at hu
    obtain ⟨c, hc, rfl⟩ := Option.map_eq_some_iff.1 hu
    have hj : j < 32 := (List.getElem?_eq_some_iff.1 hc).1
    have ha := accept_eq ⟨j / 2, by omega⟩
    have hh := h.2 (j / 2) (by omega)
    rw [Nat.zero_add]
    rcases Nat.mod_two_eq_zero_or_one j with h0 | h0
    · have e : 2 * (j / 2) = j := by omega
      simp only [e] at ha hh
      rw [hh.1]
      have := ha.1.symm.trans hc
      rw [Option.some.inj this]
    · have e : 2 * (j / 2) + 1 = j := by omega
      simp only [e] at ha hh
      rw [hh.2]
      have := ha.2.symm.trans hc
      rw [Option.some.inj this]
theorem accept_data : (YtodhgafhllbojaaDoor.Rows.laid_unicode_utf8_acceptRanges : DataW Unit) = acceptData := by kernel_rfl
theorem pow_data : (YtodhgafhllbojaaDoor.Rows.laid_internal_strconv_uint64pow10 : DataW Unit) = tabData .u64 Lib.pow10Tab := by kernel_rfl
theorem pow_ty : (Tryd.prog.globals[2]?).map (·.type) = some 137 := by kernel_rfl
theorem kwp_of {W : World} (h : VarReads Tryd.prog W "internal/strconv.uint64pow10" (tabData .u64 Lib.pow10Tab)) : KWp Tryd.prog W := by
  intro g hg
  obtain rfl : 2 = g := Option.some.inj (tab_pow.symm.trans hg)
  obtain ⟨g, t, cs, fuel, p, h1, h2, h3, h4⟩ := h
  obtain rfl : 2 = g := Option.some.inj ((show Tryd.prog.globalNamed "internal/strconv.uint64pow10" = some 2 from tab_pow2).symm.trans h1)
  obtain rfl : 137 = t := Option.some.inj (pow_ty.symm.trans h2)
  have hc := cells_of_tab (P := Tryd.prog) Tryd.underlying137 Tryd.underlying90 (by kernel_rfl) (by kernel_rfl) h4
  unfold World.var? at h3
  rw [h1] at h3
  simp only [Option.bind_some] at h3
  split at h3
  · rename_i cs' t' fz hh
    obtain rfl := Option.some.inj h3
    refine ⟨t', fz, ?_⟩
    rw [hh, pow_eq, ← hc]
  · cases h3
theorem kw_row {W : World} (h : laidMet Tryd.prog YtodhgafhllbojaaDoor.Rows.sayRightRow.laid W) : KW Tryd.prog W := by
  have h1 := Lib.laidMet.reads h (n := "unicode/utf8.first") (d := firstData) (by rw [← Pinned.utf8First_eq]; exact .tail _ (.tail _ (.tail _ (.tail _ (.head _)))))
  have h2 := Lib.laidMet.reads h (n := "unicode/utf8.acceptRanges") (d := acceptData) (by rw [← accept_data]; exact .tail _ (.tail _ (.tail _ (.head _))))
  have h3 := Lib.laidMet.reads h (n := "internal/strconv.uint64pow10") (d := tabData .u64 Lib.pow10Tab) (by rw [← pow_data]; exact .tail _ (.tail _ (.head _)))
  exact ⟨kw_of_tabs (utf8Tabs_of_reads (ρ := Tryd.lays260_ren) Tryd.lays260 u8extra h1 h2), kwp_of h3⟩
end Go.Vc
