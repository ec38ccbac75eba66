/-
  Plain: toward both contracts of Parse.
-/
import Derived.Test.YtodhgafhllbojaaDoorQYz
set_option maxRecDepth 100000
namespace Go.Vc
open Go Go.Proofs Go.Plain
open Go.Lib (decDigits nDigits)
theorem joinSp_ge : ∀ {ws : Wds}, (∀ w ∈ ws, w ≠ []) → ws.length ≤ (joinSp ws).length ∧ ∀ w ∈ ws, w.length ≤ (joinSp ws).length
  | [], _ => ⟨Nat.le_refl _, fun w h => by cases h⟩
  | [w], h => by
    have := List.length_pos_iff.2 (h w (by simp))
    refine ⟨by simp [joinSp]; omega, fun v hv => ?_⟩
    rw [List.mem_singleton] at hv
    rw [hv]
    exact Nat.le_refl _
  | w :: v :: r, h => by
    obtain ⟨h1, h2⟩ := joinSp_ge (ws := v :: r) (fun x hx => h x (by simp [hx]))
    have e : (joinSp (w :: v :: r)).length = w.length + (joinSp (v :: r)).length + 1 := by
      rw [show joinSp (w :: v :: r) = w ++ 32 :: joinSp (v :: r) from rfl, List.length_append, List.length_cons]
      omega
    rw [e]
    refine ⟨by simp only [List.length_cons] at h1 ⊢; omega, fun x hx => ?_⟩
    rcases List.mem_cons.1 hx with rfl | hx
    · omega
    · have := h2 x hx; omega
theorem str_getD (ws : Wds) (i : Nat) (h : i < ws.length) : (ws.map C.str).getD i default = .str (ws.getD i []) := by simp [List.getD, h]
theorem getD_mem {ws : Wds} {i : Nat} (h : i < ws.length) : ws.getD i [] ∈ ws := by simp [List.getD, h]
theorem drop_at {ws : Wds} {i : Nat} (h : i < ws.length) : ws.drop i = ws.getD i [] :: ws.drop (i + 1) := by
  rw [List.drop_eq_getElem_cons h]
  simp [List.getD, h]
def encP (p : Pl) (i : Nat) : List C := [.bool false, .int (i : Int), .bool false, .bool false, .bool false, .int 0, .bool false, .int 0, .bool false, .int 0, .bool false, .int 0, .ls [], .ls [], .ls [], .ls [], .bool false, .bool p.sm, .bool p.m, .bool p.st, .int p.ty, .bool p.sq, .int p.seq, .bool p.stm, .int p.time, .bool p.ss, .int p.ssrc, Mps p.maps, Els p.over, Ints p.drops, Els p.adds, .bool p.np]
theorem parseBy_none {f : Pl → Wds → Option (Pl × Wds)} {s : List UInt8} (h : s ≠ []) (hw : wordsL s = none) : parseBy f s = none := by
  unfold parseBy
  rw [if_neg h, hw]
theorem parseBy_some {f : Pl → Wds → Option (Pl × Wds)} {s : List UInt8} {ws : Wds} (h : s ≠ []) (hw : wordsL s = some ws) : parseBy f s = (iter f ws.length Pl.zero ws).bind fun p => if plRight p ∧ printL p = s then some p else none := by
  unfold parseBy
  rw [if_neg h, hw]
  change (match iter f ws.length Pl.zero ws with | none => none | some p => if plRight p ∧ printL p = s then some p else none) = _
  cases iter f ws.length Pl.zero ws <;> rfl
end Go.Vc
