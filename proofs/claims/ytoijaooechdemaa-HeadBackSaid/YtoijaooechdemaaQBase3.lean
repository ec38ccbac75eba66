/-
  My own general texts, one behind the other: a generator of conditions over the model, with its proof, and plain lemmas. No condition on the program.
-/
import Derived.Test.YtoijaooechdemaaQBase2
import Derived.ProofKit
import Derived.OpenShut
import Derived.ShutString
import Derived.ChangeOld
import Derived.Below

/-
  Plain: the fixed header of a packet.
-/
namespace Go.Plain
structure Hd where
  pad : Bool
  ext : Bool
  mark : Bool
  typ : Int
  seq : Nat
  time : Nat
  ssrc : Nat
  csrc : List Nat
  deriving DecidableEq
def Hd.zero : Hd := ⟨false, false, false, 0, 0, 0, 0, []⟩
def Hd.ok (h : Hd) : Prop := h.seq < 65536 ∧ h.time < 4294967296 ∧ h.ssrc < 4294967296 ∧ ∀ c ∈ h.csrc, c < 4294967296
def Hd.right (h : Hd) : Prop := 0 ≤ h.typ ∧ h.typ < 128 ∧ h.csrc.length < 16
instance (h : Hd) : Decidable h.right := by unfold Hd.right; exact inferInstance
def Hd.first (h : Hd) : Nat := 128 + 32 * h.pad.toNat + 16 * h.ext.toNat + h.csrc.length
def Hd.second (h : Hd) : Nat := 128 * h.mark.toNat + h.typ.toNat
def words (l : List Nat) : List UInt8 := (l.map (toBE 4)).flatten
def Hd.bytes (h : Hd) : List UInt8 := UInt8.ofNat h.first :: UInt8.ofNat h.second :: (toBE 2 h.seq ++ (toBE 4 h.time ++ (toBE 4 h.ssrc ++ words h.csrc)))
def at_ (b : List UInt8) (i : Nat) : Nat := (b.getD i 0).toNat
def num (b : List UInt8) (i n : Nat) : Nat := be ((b.drop i).take n)
def Hd.of (b : List UInt8) : Hd :=
  { pad := decide (at_ b 0 / 32 % 2 = 1), ext := decide (at_ b 0 / 16 % 2 = 1), mark := decide (128 ≤ at_ b 1), typ := ((at_ b 1 % 128 : Nat) : Int), seq := num b 2 2, time := num b 4 4, ssrc := num b 8 4,
    csrc := (List.range (at_ b 0 % 16)).map fun i => num b (12 + 4 * i) 4 }
def hdE (b : List UInt8) : Int := if b.length < 12 then 2 else if at_ b 0 / 64 ≠ 2 then 3 else if b.length < 12 + 4 * (at_ b 0 % 16) then 2 else 0
def hdN (b : List UInt8) : Nat := if hdE b = 0 then 12 + 4 * (at_ b 0 % 16) else 0
def hdH (b : List UInt8) : Hd := if hdE b = 0 then Hd.of b else Hd.zero
theorem hdE_zero {b : List UInt8} : hdE b = 0 ↔ 12 ≤ b.length ∧ at_ b 0 / 64 = 2 ∧ 12 + 4 * (at_ b 0 % 16) ≤ b.length := by
  unfold hdE
  split
  · simp; omega
  · split
    · simp; omega
    · split <;> simp <;> omega
theorem words_length (l : List Nat) : (words l).length = 4 * l.length := by
  induction l with
  | nil => rfl
  | cons x l ih => simp only [words, List.map_cons, List.flatten_cons, List.length_append, toBE_length, List.length_cons] at ih ⊢; omega
theorem Hd.bytes_length (h : Hd) : h.bytes.length = 12 + 4 * h.csrc.length := by
  simp [Hd.bytes, words_length]; omega
theorem at_lt (b : List UInt8) (i : Nat) : at_ b i < 256 := UInt8.toNat_lt _
theorem num_lt (b : List UInt8) (i n : Nat) : num b i n < 256 ^ n := be_take_lt _ _
theorem num_app {a b c : List UInt8} {n : Nat} (h : b.length = n) : num (a ++ (b ++ c)) a.length n = be b := by
  simp only [num]
  rw [List.drop_append, List.drop_of_length_le (Nat.le_refl _)]
  simp [← h]
theorem num_drop (a b : List UInt8) (i n : Nat) : num (a ++ b) (a.length + i) n = num b i n := by
  simp only [num]
  rw [← List.drop_drop, List.drop_left]
theorem words_num : ∀ (l : List Nat) (r : List UInt8), (∀ c ∈ l, c < 4294967296) → ((List.range l.length).map fun i => num (words l ++ r) (4 * i) 4) = l
  | [], _, _ => rfl
  | x :: l, r, h => by
    have h1 := h x (by simp)
    rw [List.length_cons, List.range_succ_eq_map, List.map_cons, List.map_map]
    have e1 : num (words (x :: l) ++ r) (4 * 0) 4 = x := by
      have := num_app (a := []) (b := toBE 4 x) (c := words l ++ r) (n := 4) (toBE_length _ _)
      simp only [words, List.map_cons, List.flatten_cons, List.append_assoc] at this ⊢
      simp only [List.nil_append, List.length_nil] at this
      rw [Nat.mul_zero, this, be_toBE]
      omega
    have e2 : ((fun i => num (words (x :: l) ++ r) (4 * i) 4) ∘ Nat.succ) = fun i => num (words l ++ r) (4 * i) 4 := by
      funext i
      have := num_drop (toBE 4 x) (words l ++ r) (4 * i) 4
      rw [toBE_length] at this
      simp only [Function.comp, words, List.map_cons, List.flatten_cons, List.append_assoc] at this ⊢
      rw [← this]
      congr 1
      omega
    rw [e1, e2, words_num l r (fun c hc => h c (by simp [hc]))]
theorem num_at {b : List UInt8} {i n : Nat} (h : i + n ≤ b.length) : toBE n (num b i n) = (b.drop i).take n := by
  apply toBE_be
  simp; omega
/-- A header is read from its bytes as it was. -/
theorem Hd.back (h : Hd) (hr : h.right) (ho : h.ok) (r : List UInt8) : hdE (h.bytes ++ r) = 0 ∧ Hd.of (h.bytes ++ r) = h ∧ at_ (h.bytes ++ r) 0 % 16 = h.csrc.length := by
  obtain ⟨r1, r2, r3⟩ := hr
  obtain ⟨o1, o2, o3, o4⟩ := ho
  have a0 : at_ (h.bytes ++ r) 0 = h.first := by
    simp only [at_, Hd.bytes, List.cons_append, List.getD_cons_zero, UInt8.toNat_ofNat']
    apply Nat.mod_eq_of_lt
    simp only [Hd.first]
    cases h.pad <;> cases h.ext <;> simp <;> omega
  have a1 : at_ (h.bytes ++ r) 1 = h.second := by
    simp only [at_, Hd.bytes, List.cons_append, List.getD_cons_succ, List.getD_cons_zero, UInt8.toNat_ofNat']
    apply Nat.mod_eq_of_lt
    simp only [Hd.second]
    cases h.mark <;> simp <;> omega
  have hn : at_ (h.bytes ++ r) 0 % 16 = h.csrc.length := by
    rw [a0]
    simp only [Hd.first]
    cases h.pad <;> cases h.ext <;> simp <;> omega
  refine ⟨?_, ?_, hn⟩
  · rw [hdE_zero, hn, List.length_append, Hd.bytes_length, a0]
    refine ⟨by omega, ?_, by omega⟩
    simp only [Hd.first]
    cases h.pad <;> cases h.ext <;> simp <;> omega
  · have s1 : num (h.bytes ++ r) 2 2 = h.seq := by
      have := num_app (a := [UInt8.ofNat h.first, UInt8.ofNat h.second]) (b := toBE 2 h.seq) (c := toBE 4 h.time ++ (toBE 4 h.ssrc ++ (words h.csrc ++ r))) (n := 2) (toBE_length _ _)
      rw [be_toBE, Nat.mod_eq_of_lt (by omega)] at this
      rw [← this]
      simp [Hd.bytes]
    have s2 : num (h.bytes ++ r) 4 4 = h.time := by
      have := num_app (a := [UInt8.ofNat h.first, UInt8.ofNat h.second] ++ toBE 2 h.seq) (b := toBE 4 h.time) (c := toBE 4 h.ssrc ++ (words h.csrc ++ r)) (n := 4) (toBE_length _ _)
      rw [be_toBE, Nat.mod_eq_of_lt (by omega)] at this
      rw [← this]
      simp [Hd.bytes]
    have s3 : num (h.bytes ++ r) 8 4 = h.ssrc := by
      have := num_app (a := [UInt8.ofNat h.first, UInt8.ofNat h.second] ++ (toBE 2 h.seq ++ toBE 4 h.time)) (b := toBE 4 h.ssrc) (c := words h.csrc ++ r) (n := 4) (toBE_length _ _)
      rw [be_toBE, Nat.mod_eq_of_lt (by omega)] at this
      rw [← this]
      simp [Hd.bytes]
    have s4 : ((List.range (at_ (h.bytes ++ r) 0 % 16)).map fun i => num (h.bytes ++ r) (12 + 4 * i) 4) = h.csrc := by
      rw [hn]
      have e : (fun i => num (h.bytes ++ r) (12 + 4 * i) 4) = fun i => num (words h.csrc ++ r) (4 * i) 4 := by
        funext i
        have := num_drop ([UInt8.ofNat h.first, UInt8.ofNat h.second] ++ (toBE 2 h.seq ++ (toBE 4 h.time ++ toBE 4 h.ssrc))) (words h.csrc ++ r) (4 * i) 4
        rw [← this]
        simp [Hd.bytes]
      rw [e]
      exact words_num _ _ o4
    have p1 : (h.first / 32 % 2 = 1) = (h.pad = true) := by
      simp only [Hd.first]
      cases h.pad <;> cases h.ext <;> simp <;> omega
    have p2 : (h.first / 16 % 2 = 1) = (h.ext = true) := by
      simp only [Hd.first]
      cases h.pad <;> cases h.ext <;> simp <;> omega
    have p3 : (128 ≤ h.second) = (h.mark = true) := by
      simp only [Hd.second]
      cases h.mark <;> simp <;> omega
    have p4 : ((h.second % 128 : Nat) : Int) = h.typ := by
      simp only [Hd.second]
      cases h.mark <;> simp <;> omega
    rw [hn] at s4
    simp only [Hd.of, hn, s1, s2, s3, s4]
    rw [a0, a1]
    simp only [p1, p2, p3, p4, Bool.decide_eq_true]
theorem take_cons2 (b : List UInt8) (h : 12 ≤ b.length) : b = UInt8.ofNat (at_ b 0) :: UInt8.ofNat (at_ b 1) :: b.drop 2 := by
  match b, h with
  | x :: y :: l, _ =>
    simp [at_]
theorem words_take (b : List UInt8) : ∀ n : Nat, 4 * n ≤ b.length → words ((List.range n).map fun i => num b (4 * i) 4) = b.take (4 * n)
  | 0, _ => by simp [words]
  | n + 1, h => by
    rw [List.range_succ, List.map_append]
    have e : words (((List.range n).map fun i => num b (4 * i) 4) ++ [num b (4 * n) 4]) = words ((List.range n).map fun i => num b (4 * i) 4) ++ toBE 4 (num b (4 * n) 4) := by
      simp [words]
    simp only [List.map_cons, List.map_nil]
    rw [e, words_take b n (by omega), num_at (by omega), Nat.mul_succ, List.take_add]
/-- What is read has just the bytes that it was read from. -/
theorem Hd.same (b : List UInt8) (h : hdE b = 0) : (Hd.of b).right ∧ (Hd.of b).ok ∧ (Hd.of b).csrc.length = at_ b 0 % 16 ∧ (Hd.of b).bytes = b.take (12 + 4 * (at_ b 0 % 16)) := by
  have hz := hdE_zero.1 h
  have h0 := at_lt b 0
  have h1 := at_lt b 1
  have hl : (Hd.of b).csrc.length = at_ b 0 % 16 := by simp [Hd.of]
  refine ⟨?_, ?_, hl, ?_⟩
  · have e : (Hd.of b).typ = ((at_ b 1 % 128 : Nat) : Int) := rfl
    refine ⟨by omega, by omega, by rw [hl]; omega⟩
  · refine ⟨num_lt _ _ 2, num_lt _ _ 4, num_lt _ _ 4, ?_⟩
    intro c hc
    simp only [Hd.of, List.mem_map] at hc
    obtain ⟨i, _, rfl⟩ := hc
    exact num_lt _ _ 4
  · have f1 : (Hd.of b).first = at_ b 0 := by
      simp only [Hd.first, hl]
      have e1 : (Hd.of b).pad = decide (at_ b 0 / 32 % 2 = 1) := rfl
      have e2 : (Hd.of b).ext = decide (at_ b 0 / 16 % 2 = 1) := rfl
      rw [e1, e2]
      by_cases q1 : at_ b 0 / 32 % 2 = 1 <;> by_cases q2 : at_ b 0 / 16 % 2 = 1 <;> simp [q1, q2] <;> omega
    have f2 : (Hd.of b).second = at_ b 1 := by
      simp only [Hd.second]
      have e1 : (Hd.of b).mark = decide (128 ≤ at_ b 1) := rfl
      have e2 : (Hd.of b).typ = ((at_ b 1 % 128 : Nat) : Int) := rfl
      rw [e1, e2]
      by_cases q1 : 128 ≤ at_ b 1 <;> simp [q1] <;> omega
    have g1 : toBE 2 (Hd.of b).seq = (b.drop 2).take 2 := num_at (by omega)
    have g2 : toBE 4 (Hd.of b).time = (b.drop 4).take 4 := num_at (by omega)
    have g3 : toBE 4 (Hd.of b).ssrc = (b.drop 8).take 4 := num_at (by omega)
    have g4 : words (Hd.of b).csrc = (b.drop 12).take (4 * (at_ b 0 % 16)) := by
      rw [← words_take (b.drop 12) (at_ b 0 % 16) (by simp; omega)]
      congr 1
      simp only [Hd.of]
      apply List.map_congr_left
      intro i _
      simp [num, List.drop_drop]
    rw [Hd.bytes, f1, f2, g1, g2, g3, g4]
    have cut4 : ∀ (n m : Nat) (l : List UInt8), (l.drop n).take m ++ (l.drop (n + m)) = l.drop n := by
      intro n m l
      rw [← List.drop_drop, List.take_append_drop]
    have e5 : (12 + 4 * (at_ b 0 % 16)) = 2 + (2 + (4 + (4 + 4 * (at_ b 0 % 16)))) := by omega
    generalize hm : 4 * (at_ b 0 % 16) = m at *
    have hb := take_cons2 b hz.1
    have e6 : b.take (2 + (2 + (4 + (4 + m)))) = UInt8.ofNat (at_ b 0) :: UInt8.ofNat (at_ b 1) :: (b.drop 2).take (2 + (4 + (4 + m))) := by
      conv => lhs; rw [hb]
      rw [show 2 + (2 + (4 + (4 + m))) = (2 + (4 + (4 + m))) + 1 + 1 by omega, List.take_succ_cons, List.take_succ_cons]
    rw [e5, e6]
    have tk : ∀ (n m k : Nat), ((b.drop k).take (n + m)) = (b.drop k).take n ++ (b.drop (k + n)).take m := by
      intro n m k
      rw [List.take_add, List.drop_drop]
    rw [tk 2 _ 2, tk 4 _ 4, tk 4 _ 8]
/-- Cut anywhere, it is too short. -/
theorem Hd.cut (h : Hd) (hr : h.right) (ho : h.ok) (k : Nat) (hk : k < h.bytes.length) : hdE (h.bytes.take k) = 2 := by
  have hb := Hd.back h hr ho []
  rw [List.append_nil] at hb
  have hz := hdE_zero.1 hb.1
  have hl := h.bytes_length
  unfold hdE
  rw [List.length_take, Nat.min_eq_left (Nat.le_of_lt hk)]
  split
  · rfl
  · rename_i h12
    have a0 : at_ (h.bytes.take k) 0 = at_ h.bytes 0 := by
      simp only [at_, List.getD_eq_getElem?_getD]
      rw [List.getElem?_take, if_pos (by omega)]
    rw [a0, if_neg (by omega), if_pos (by omega)]
theorem Hd.inj {h k : Hd} (hr : h.right) (ho : h.ok) (kr : k.right) (ko : k.ok) (e : h.bytes = k.bytes) : h = k := by
  have h1 := (Hd.back h hr ho []).2.1
  have h2 := (Hd.back k kr ko []).2.1
  rw [← h1, ← h2, e]
end Go.Plain

/-
  Part Z: what a row's arguments read as is data of the parameters' shapes; a law's row out of the contract of its function.
-/
namespace Go.Vc
open Go.ChangeShapes Go.WideShapes Go.ChangeAt Go.RowKit

/-- Data of a shape: integers fit, lengths are lengths. -/
def Ty : Sh → C → Prop
  | .int k, c => ∃ n, c = .int n ∧ (Lit.int k n).wf = true
  | .bool, c => ∃ b, c = .bool b
  | .str, c => ∃ s, c = .str s ∧ s.length ≤ maxLen
  | .sl e, c => ∃ l, c = .ls l ∧ l.length ≤ maxLen ∧ ∀ x ∈ l, Ty e x
  | .unit, c => c = .ls []
  | .pair a b, c => ∃ x l, c = .ls (x :: l) ∧ Ty a x ∧ Ty b (.ls l)
theorem lit_wf {k : IntKind} {n : Int} : (Lit.int k n).wf = true ↔ k.min ≤ n ∧ n ≤ k.max := by
  simp [Lit.wf]
def TyAll : List Sh → List C → Prop
  | [], cs => cs = []
  | s :: l, cs => ∃ c r, cs = c :: r ∧ Ty s c ∧ TyAll l r
theorem ty_int {k : IntKind} {c : C} (h : Ty (.int k) c) : ∃ n : Int, c = .int n ∧ k.min ≤ n ∧ n ≤ k.max := by
  obtain ⟨n, h1, h2⟩ := h
  exact ⟨n, h1, lit_wf.1 h2⟩
theorem ty_nat {k : IntKind} (hs : k.signed = false) {c : C} (h : Ty (.int k) c) : ∃ n : Nat, c = .int n ∧ n < 2 ^ k.bits := by
  obtain ⟨n, rfl, h1, h2⟩ := ty_int h
  refine ⟨n.toNat, ?_, ?_⟩
  · cases k <;> simp [IntKind.signed] at hs <;> simp [IntKind.min, IntKind.signed] at h1 <;> congr 1 <;> omega
  · cases k <;> simp [IntKind.signed] at hs <;> simp [IntKind.min, IntKind.max, IntKind.signed, IntKind.bits] at h1 h2 ⊢ <;> omega
theorem ty_bytes {c : C} (h : Ty (.sl (.int .u8)) c) : ∃ b : List UInt8, c = .ls (ofBytes b) := by
  obtain ⟨l, rfl, _, hl⟩ := h
  refine ⟨l.map fun c => UInt8.ofNat c.toInt.toNat, ?_⟩
  congr 1
  simp only [ofBytes, List.map_map]
  conv => lhs; rw [← List.map_id l]
  apply List.map_congr_left
  intro c hc
  obtain ⟨n, rfl, hn⟩ := ty_nat rfl (hl c hc)
  simp only [Function.comp, id, C.toInt_int, Int.toNat_natCast, UInt8.toNat_ofNat']
  simp [IntKind.bits] at hn
  congr 1
  omega
def goodFs (P : Program) (R : TypeId → Sh → Bool) : List Field → Sh → Nat → Bool
  | [], .unit, _ => true
  | f :: fs, .pair a b, off => f.offset == off && (P.cellsOf f.type == a.size && (R f.type a && (b.isAgg && goodFs P R fs b (off + a.size))))
  | _, _, _ => false
/-- The type's values read as data of the shape. -/
def goodT (P : Program) : Nat → TypeId → Sh → Bool
  | 0, _, _ => false
  | n + 1, t, s => match P.underlying t, s with
    | some .bool, .bool => true
    | some (.int k), .int k' => decide (k = k')
    | some .string, .str => true
    | some (.slice e), .sl s => P.cellsOf e == s.size && (s.size != 0 && goodT P n e s)
    | some (.struct fs), s => s.isAgg && (P.cellsOf t == s.size && goodFs P (goodT P n) fs.toList s 0)
    | _, _ => false
theorem Ty.agg {s : Sh} {c : C} (hs : s.isAgg = true) (h : Ty s c) : ∃ l, c = .ls l := by
  cases s with
  | unit => exact ⟨[], h⟩
  | pair a b => obtain ⟨x, l, h, _⟩ := h; exact ⟨_, h⟩
  | _ => cases hs
theorem pick {Q : Nat → C → Prop} : ∀ n : Nat, (∀ i, i < n → ∃ c, Q i c) → ∃ l : List C, l.length = n ∧ ∀ i c, l[i]? = some c → Q i c
  | 0, _ => ⟨[], rfl, fun i c h => by simp at h⟩
  | n + 1, h => by
    obtain ⟨l, h1, h2⟩ := pick n fun i hi => h i (by omega)
    obtain ⟨c, hc⟩ := h n (by omega)
    refine ⟨l ++ [c], by simp [h1], fun i c' hi => ?_⟩
    by_cases hl : i < n
    · rw [List.getElem?_append_left (by omega)] at hi
      exact h2 i c' hi
    · have : i = n := by
        have := (List.getElem?_eq_some_iff.1 hi).1
        simp at this
        omega
      subst this
      rw [List.getElem?_append_right (by omega), h1] at hi
      simp at hi
      exact hi ▸ hc
section
variable {H : Type} {enc : TypeId × Value → H} {P : Program} {w : World} {base : Nat} {sp : Nat → Bool} {held : Bool}
theorem fields_rd {n m : Nat} (ih : ∀ t s cs fuel x, goodT P n t s = true → DataW.trod enc P w base sp held fuel t cs = some x → ∃ c, Rd w (fun _ => True) s cs c ∧ Ty s c)
    {cs : List Value} : ∀ (fs : List Field) (s : Sh) (off : Nat) (xs : List (DataW H × List MemPlace)), xs.length = fs.length →
      (∀ (i : Nat) (f : Field), fs[i]? = some f → DataW.trod enc P w base sp held m f.type ((cs.drop f.offset).take (P.cellsOf f.type)) = xs[i]?) →
      goodFs P (goodT P n) fs s off = true → cs.length = off + s.size → ∃ c, Rd w (fun _ => True) s (cs.drop off) c ∧ Ty s c := by
  intro fs
  induction fs with
  | nil =>
    intro s off xs _ _ hg hl
    cases s <;> simp [goodFs] at hg
    exact ⟨.ls [], by simp only [Rd]; apply List.drop_eq_nil_of_le; simp [Sh.size] at hl; omega, rfl⟩
  | cons f fs ihf =>
    intro s off xs hxl hx hg hl
    cases s <;> simp [goodFs] at hg
    rename_i a b
    obtain ⟨h1, h2, h3, h4, h5⟩ := hg
    cases xs with
    | nil => simp at hxl
    | cons x xs =>
      have h0 := hx 0 f rfl
      simp only [List.getElem?_cons_zero] at h0
      rw [h1, h2] at h0
      obtain ⟨ca, r1, r2⟩ := ih _ _ _ _ _ h3 h0
      obtain ⟨cb, r3, r4⟩ := ihf b (off + a.size) xs (by simpa using hxl) (fun i g hg => by simpa using hx (i + 1) g (by simpa using hg)) h5 (by simp [Sh.size] at hl; omega)
      obtain ⟨l, rfl⟩ := r4.agg h4
      refine ⟨.ls (ca :: l), ⟨h4, (cs.drop off).take a.size, cs.drop (off + a.size), ?_, r1, r3⟩, ca, l, rfl, r2, r4⟩
      rw [← List.drop_drop, List.take_append_drop]
theorem trod_rd : ∀ (n : Nat) (t : TypeId) (s : Sh) (cs : List Value) (fuel : Nat) (x : DataW H × List MemPlace),
    goodT P n t s = true → DataW.trod enc P w base sp held fuel t cs = some x → ∃ c, Rd w (fun _ => True) s cs c ∧ Ty s c := by
  intro n
  induction n with
  | zero => intro t s cs fuel x h; simp [goodT] at h
  | succ n ih =>
    intro t s cs fuel x hg ht
    unfold goodT at hg
    split at hg
    · rename_i hu
      obtain ⟨b, rfl, _⟩ := DataW.trod_bool hu ht
      exact ⟨.bool b, rfl, b, rfl⟩
    · rename_i k k' hu
      obtain ⟨m, rfl, _, hw⟩ := DataW.trod_int hu ht
      have := of_decide_eq_true hg
      subst this
      exact ⟨.int m, rfl, m, rfl, hw⟩
    · rename_i hu
      obtain ⟨str, rfl, _, hl⟩ := DataW.trod_string hu ht
      exact ⟨.str str.data.toList, by simp [Rd], _, rfl, by simpa using hl⟩
    · rename_i e s hu
      simp at hg
      obtain ⟨h1, h2, h3⟩ := hg
      rcases DataW.trod_slice hu ht with ⟨rfl, _⟩ | ⟨a, len, cap, elems, rest, m, _, rfl, _, _, hl, hm, hlen, hel, _, _⟩
      · exact ⟨.ls [], ⟨none, 0, rfl, by simp, by simp [maxLen], by simp⟩, [], rfl, by simp, by simp⟩
      · by_cases hz : len = 0
        · subst hz
          exact ⟨.ls [], ⟨some a, cap, rfl, by simp, hm, by simp⟩, [], rfl, by simp, by simp⟩
        obtain ⟨b, off, spot⟩ := a
        have cellsOk : ∀ i, i < len → ∃ us c, w.cells? base (Addr.add ⟨b, off, spot⟩ (i * s.size)) s.size = some us ∧ Rd w (fun _ => True) s us c ∧ Ty s c := by
          intro i hi
          have h4 := hel i hi
          rw [List.getElem?_eq_getElem (by omega), Option.bind_eq_some_iff] at h4
          obtain ⟨us, h5, h6⟩ := h4
          obtain ⟨c, r1, r2⟩ := ih _ _ _ _ _ h3 h6
          exact ⟨us, c, by rw [← h1]; exact h5, r1, r2⟩
        have hsp : spot = none ∧ b < w.heap.size := by
          obtain ⟨us, c, h5, _⟩ := cellsOk 0 (by omega)
          obtain ⟨_, h7, h8⟩ := World.cells?_some h5
          have h9 := h8 0 (by omega)
          rw [List.getElem?_eq_getElem (by omega)] at h9
          simp [Addr.add] at h9
          refine ⟨by simpa using World.cell?_spot h9, ?_⟩
          have hnn : w.heap[b]? ≠ none := by
            intro hn
            simp [World.cell?, hn] at h9
          exact Nat.lt_of_not_le fun hle => hnn (by simpa using hle)
        obtain ⟨rfl, hlt⟩ := hsp
        have each : ∀ i, i < len → ∃ c, ((∃ us, us.length = s.size ∧ CellsAt w b (off + i * s.size) us ∧ Rd w (fun _ => True) s us c) ∧ Ty s c) := by
          intro i hi
          obtain ⟨us, c, h5, r1, r2⟩ := cellsOk i hi
          obtain ⟨_, h7, h8⟩ := World.cells?_some h5
          refine ⟨c, ⟨us, h7, fun j u hj => ?_, r1⟩, r2⟩
          have hj' : j < s.size := by
            have := (List.getElem?_eq_some_iff.1 hj).1
            omega
          have h9 := h8 j hj'
          rw [hj] at h9
          have ea : ∀ (o k : Nat), Addr.add ⟨b, o, none⟩ k = ⟨b, o + k, none⟩ := by
            intro o k
            simp only [Addr.add]
            split <;> simp_all
          rw [ea, ea] at h9
          exact h9
        obtain ⟨l, l1, l2⟩ := pick len each
        refine ⟨.ls l, ⟨some ⟨b, off, none⟩, cap, by simp only [C.toList_ls, l1], by simp only [C.toList_ls, l1]; exact hl, hm, fun _ => ⟨b, off, rfl, trivial, hlt, fun i c hi => (l2 i c hi).1⟩⟩, l, rfl, by omega, fun c hc => ?_⟩
        obtain ⟨i, hi⟩ := List.getElem?_of_mem hc
        exact (l2 i c hi).2
    · rename_i fs hu
      simp at hg
      obtain ⟨h0, h1, h2⟩ := hg
      obtain ⟨xs, m, _, _, h3, h4, h5⟩ := DataW.trod_struct hu ht
      have := fields_rd ih fs.toList _ 0 xs (by simpa using h4) (fun i f hf => h5 i f (by simpa using hf)) h2 (by omega)
      simpa using this
    · cases hg
theorem rdv_of {r : Reach} {b0 n : Nat} {t : TypeId} {s : Sh} {v : Value} {d : DataW H} {ps : List MemPlace} (hg : goodT P n t s = true) (hv : Value.okWide P w r b0 t v)
    (hd : DataW.Trod enc P w base sp held t v d ps) : ∃ c, RdV w (fun _ => True) s v c ∧ Ty s c := by
  obtain ⟨fuel, hf⟩ := hd
  obtain ⟨c, r1, r2⟩ := trod_rd n t s _ _ _ hg hf
  refine ⟨c, ⟨_, r1, ?_⟩, r2⟩
  cases n with
  | zero => simp [goodT] at hg
  | succ n =>
    unfold goodT at hg
    split at hg
    · rename_i hu; obtain ⟨_, rfl⟩ := okWide_bool hu hv; rfl
    · rename_i hu; obtain ⟨_, rfl⟩ := okWide_int hu hv; rfl
    · rename_i hu; obtain ⟨_, rfl⟩ := okWide_string hu hv; rfl
    · rename_i hu; obtain ⟨_, _, _, rfl⟩ := okWide_slice hu hv; rfl
    · rename_i hu
      obtain ⟨cs, rfl, _⟩ := okWide_struct hu hv
      simp at hg
      simp [Sh.mk, hg.1, Value.cells]
    · cases hg
def goodTs (P : Program) (n : Nat) : List TypeId → List Sh → Bool
  | [], [] => true
  | t :: ts, s :: l => goodT P n t s && goodTs P n ts l
  | _, _ => false
theorem rdvs_of {r : Reach} {b0 n : Nat} : ∀ {ts : List TypeId} {shs : List Sh} {vs : List Value} {ds : List (DataW H)} {ps : List MemPlace},
    goodTs P n ts shs = true → (∀ (j : Nat) t v, ts[j]? = some t → vs[j]? = some v → Value.okWide P w r b0 t v) → DataW.TrodAll enc P w base sp held ts vs ds ps →
    ∃ cs, RdVs w (fun _ => True) (shs.zip cs) vs ∧ TyAll shs cs
  | [], [], vs, ds, ps, _, _, h => by
    cases vs with
    | nil => exact ⟨[], rfl, rfl⟩
    | cons _ _ => simp [DataW.TrodAll] at h
  | t :: ts, s :: l, vs, ds, ps, hg, hv, h => by
    cases vs with
    | nil => simp [DataW.TrodAll] at h
    | cons v vs =>
      cases ds with
      | nil => simp [DataW.TrodAll] at h
      | cons d ds =>
        obtain ⟨p, q, h1, h2, _⟩ := h
        simp [goodTs] at hg
        obtain ⟨c, r1, r2⟩ := rdv_of hg.1 (hv 0 t v rfl rfl) h1
        obtain ⟨cs, r3, r4⟩ := rdvs_of hg.2 (fun j t' v' ht' hv' => hv (j + 1) t' v' (by simpa using ht') (by simpa using hv')) h2
        exact ⟨c :: cs, ⟨v, vs, rfl, r1, r3⟩, c, cs, rfl, r2, r4⟩
  | [], _ :: _, _, _, _, h, _, _ | _ :: _, [], _, _, _, h, _, _ => by simp [goodTs] at h
theorem args_stay (hl : laidOutB P = true) {W W' : World} (hb : Below W.heap.size W W') : ∀ {ts : List TypeId} {vs : List Value} {ds : List (DataW H)} {ps : List MemPlace},
    (ts.all fun t => P.readableRec t && decide (t < P.types.size)) = true → DataW.TrodAll enc P W 0 (fun _ => true) true ts vs ds ps →
    DataW.TrodAll enc P W' 0 (fun b => decide (b < W.heap.size)) true ts vs ds ps
  | [], [], [], _, _, h => h
  | t :: ts, v :: vs, d :: ds, ps, hr, ⟨p, q, h1, h2, h3⟩ => by
    simp at hr
    have lt : ∀ x ∈ p, x.block < W.heap.size := by
      obtain ⟨m, hm⟩ := h1
      exact DataW.trod_lt m _ _ _ hm
    exact ⟨p, q, Below.trod hl hr.1.1 hr.1.2 h1 hb lt, args_stay hl hb (by simpa using hr.2) h2, h3⟩
  | [], [], _ :: _, _, _, h | [], _ :: _, _, _, _, h | _ :: _, [], _, _, _, h | _ :: _, _ :: _, [], _, _, h => by simp [DataW.TrodAll] at h
end
theorem trodAll_len {H : Type} {enc : TypeId × Value → H} {P : Program} {w : World} {base : Nat} {sp : Nat → Bool} {held : Bool} : ∀ {ts : List TypeId} {vs : List Value} {ds : List (DataW H)} {ps : List MemPlace},
    DataW.TrodAll enc P w base sp held ts vs ds ps → ds.length = ts.length
  | [], [], [], _, _ => rfl
  | _ :: _, _ :: _, _ :: _, _, ⟨_, _, _, h, _⟩ => by simp [trodAll_len h]
  | [], [], _ :: _, _, h | [], _ :: _, _, _, h | _ :: _, [], _, _, h | _ :: _, _ :: _, [], _, h => by simp [DataW.TrodAll] at h
/-- A LAW's ROW, its step: for every data of its shapes the contract says 'true'. -/
theorem lifted {H : Type} {enc : TypeId × Value → H} {C : Checked} {os : Os} {f : FuncId} {fn : Func} {s : ChangeSpec} {conds : List PathCond} (hlt : f < 1000000) (own : ownKnob C.prog.godebug = none) (laidOut : laidOutB C.prog = true)
    (started : os.Started) (noInit : C.prog.inits.idxOf? f = none) (hfn : C.prog.funcs[f]? = some fn)
    (witness : ∃ (w : World) (tape : Tape) (i : Input), w.os = os ∧ (w.forCall tape i).Shaped C.prog ∧ i.vars = [] ∧ Input.okWide C.prog (w.forCall tape i) .any w.heap.size f i ∧
      s.pre6 enc C.prog fn conds false (w.forCall tape i).memory i.args ∧ ({} : Assume).holds C.prog (lone (Frame.enter C.prog f i.args .normal) [] (w.forCall tape i)))
    {shs : List Sh} (hgood : goodTs C.prog 6 fn.params.toList shs = true) (hread : (fn.params.toList.all fun t => C.prog.readableRec t && decide (t < C.prog.types.size)) = true)
    {tb : TypeId} (hres : fn.resultTypes = #[tb]) (hbool : C.prog.underlying tb = some .bool) (hvars : s.vars = [])
    (hspec : ∀ (ds : List (DataW H)), ds.length = fn.params.size → s.fn H ds = { results := [.lit (.bool true)], args := ds })
    (hpc : ∀ cs, TyAll shs cs → PC C.prog f (shs.zip cs) [(.bool, .bool true)]) :
    ReturnsInHanded {} C os f .any (s.pre6 enc C.prog fn conds false) (s.post enc C.prog fn false true false false) := by
  refine returnsInHanded_of_change own started noInit hfn witness ?_
  intro W base args ds gs before hval hW hcnd _
  have hW' := hW
  obtain ⟨p, q, hA, hV, rfl, hfz, hnd⟩ := hW
  rw [hvars] at hV
  obtain ⟨rfl, rfl⟩ := trodVars_none hV
  obtain ⟨cs, r1, r2⟩ := rdvs_of hgood (fun j t v ht hv => hval j t v (by simpa using ht) (by simpa using hv)) hA
  have hlen := trodAll_len hA
  have hcall := ((hpc cs r2).to0 hlt).2 W _ args.toList r1
  simp only [Array.toArray_toList] at hcall
  refine hcall.mono fun e W' ⟨v, he, hv, bel⟩ => ?_
  subst he
  obtain ⟨vs, hvs, hv⟩ := hv
  obtain ⟨u, r, rfl, ⟨us, hu, rfl⟩, hr⟩ := hvs
  simp only [RdVs] at hr
  subst hr
  simp only [Rd] at hu
  subst hu
  simp [Sh.mk, Sh.isAgg] at hv
  subst hv
  have hsp := hspec (ds ++ []) (by simpa using hlen)
  refine ⟨_, rfl, ds, [], _, [], p, [], hW', ?_, ?_, ?_, bel.frame _, fun h => by cases h⟩
  · rw [hsp, hres]
    exact trodAll_mk1 (shut_bool hbool _)
  · rw [hsp]
    simp only [List.append_nil]
    exact args_stay laidOut bel hread hA
  · rw [hsp, hvars]
    rfl
end Go.Vc
