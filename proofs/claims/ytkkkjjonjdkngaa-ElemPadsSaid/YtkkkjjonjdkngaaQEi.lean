/-
  The law ElemPads: it returns true, whatever it is handed.
-/
import Derived.Test.YtkkkjjonjdkngaaQEh
set_option maxRecDepth 100000
namespace Go.Vc
open Go Go.Proofs Go.Plain
/-- How many bytes 0 go ahead of the i-th element. -/
def padN (pads : List UInt8) (i : Nat) : Nat := if i < pads.length then at_ pads i % 9 else 0
def padL (pads : List UInt8) (l : List El) (n : Nat) : List (Nat × El) := (List.range n).map fun i => (padN pads i, l.getD i El.zero)
theorem padL_snd (pads : List UInt8) (l : List El) : (padL pads l l.length).map (·.2) = l := by
  unfold padL
  rw [List.map_map]
  apply List.ext_getElem
  · simp
  · intro i h1 h2
    simp [List.getD, h2]
theorem lay_succ (nar : Bool) (pads : List UInt8) (l : List El) (n : Nat) : lay nar (padL pads l (n + 1)) = lay nar (padL pads l n) ++ (List.replicate (padN pads n) 0 ++ enc nar (l.getD n El.zero)) := by
  unfold padL lay
  rw [List.range_succ, List.map_append, List.flatMap_append]
  simp
theorem lay_len (nar : Bool) (pads : List UInt8) (l : List El) (h : ∀ e ∈ l, e.data.length ≤ 255) : ∀ n, n ≤ l.length → (lay nar (padL pads l n)).length ≤ 270 * n
  | 0, _ => by simp [padL, lay]
  | n + 1, hn => by
    have ih := lay_len nar pads l h n (by omega)
    have h1 := h _ (el_mem (show n < l.length by omega))
    have h2 := enc_length nar (l.getD n El.zero)
    have h3 : Plain.ahead nar ≤ 2 := by unfold Plain.ahead; split <;> omega
    have h4 : padN pads n ≤ 8 := by unfold padN; split <;> omega
    rw [lay_succ, List.length_append, List.length_append, List.length_replicate]
    omega
theorem layAt_bare (nar : Bool) : ∀ (l : List El) (p i : Nat), i < l.length → (layAt nar p (bare l)).getD i Sp.zero = ⟨(l.getD i El.zero).id.toNat, p + (elRaw nar (l.take i)).length + Plain.ahead nar, (l.getD i El.zero).data.length⟩
  | [], _, _, h => absurd h (Nat.not_lt_zero _)
  | e :: l, p, 0, _ => by simp [bare, layAt, elRaw]
  | e :: l, p, i + 1, h => by
    have ih := layAt_bare nar l (p + (enc nar e).length) i (by simpa using h)
    have e1 : layAt nar p (bare (e :: l)) = ⟨e.id.toNat, p + 0 + Plain.ahead nar, e.data.length⟩ :: layAt nar (p + 0 + (enc nar e).length) (bare l) := rfl
    rw [e1, List.getD_cons_succ, Nat.add_zero, ih]
    have e2 : elRaw nar ((e :: l).take (i + 1)) = enc nar e ++ elRaw nar (l.take i) := by simp [elRaw]
    rw [e2, List.length_append, List.getD_cons_succ]
    simp only [Sp.mk.injEq, true_and, and_true]
    omega
/-- An element's bytes, cut out of what was written. -/
theorem enc_cut (nar : Bool) (l : List El) (i : Nat) (h : i < l.length) (z : List UInt8) :
    ((elRaw nar l ++ z).take ((elRaw nar (l.take i)).length + (enc nar (l.getD i El.zero)).length)).drop (elRaw nar (l.take i)).length = enc nar (l.getD i El.zero) ∧
    (elRaw nar (l.take i)).length + (enc nar (l.getD i El.zero)).length ≤ (elRaw nar l).length := by
  have e1 : elRaw nar l = elRaw nar (l.take i) ++ (enc nar (l.getD i El.zero) ++ elRaw nar (l.drop (i + 1))) := by
    have e2 : l = l.take i ++ (l.getD i El.zero :: l.drop (i + 1)) := by
      have : l.getD i El.zero = l[i] := by simp [List.getD, h]
      rw [this, ← List.drop_eq_getElem_cons h, List.take_append_drop]
    conv => lhs; rw [e2]
    simp [elRaw]
  refine ⟨?_, ?_⟩
  · rw [e1, List.append_assoc, List.take_append, List.drop_append]
    simp
  · rw [e1]; simp
theorem rem9 (x : Nat) (h : x < 256) : arith .rem .i64 (IntKind.i64.wrap (x : Int)) 9 = ((x % 9 : Nat) : Int) := by
  rw [wrapi64_in (by omega), arith_rem _ _ _ (by omega)]; omega
theorem quo16 (x : Nat) (h : x < 256) : arith .quo .i64 (IntKind.i64.wrap (x : Int)) 16 = ((x / 16 : Nat) : Int) := by
  rw [wrapi64_in (by omega), arith_quo _ _ _ (by omega), wrapi64_in (by omega)]; omega
theorem low16 (x : Nat) (h : x < 256) : arith .rem .u8 (x : Int) 16 = ((x % 16 : Nat) : Int) := by rw [arith_rem _ _ _ (by omega)]; omega
theorem law_ElemPads (cs : List C) (h : TyAll [.sl ElSh, Byt, U8, Byt] cs) : PC Try.prog f_crossbarlaw08_ElemPads ([.sl ElSh, Byt, U8, Byt].zip cs) [(.bool, .bool true)] := by
  obtain ⟨_, _, rfl, h1, _, _, rfl, h2, _, _, rfl, h3, _, _, rfl, h4, rfl⟩ := h
  obtain ⟨l, rfl, hl⟩ := ty_els h1
  obtain ⟨pads, rfl⟩ := ty_bytes h2
  obtain ⟨low, rfl, hlow⟩ := ty_u8e h3
  obtain ⟨more, rfl⟩ := ty_bytes h4
  apply pcv_crossbarlaw08_ElemPads rfl
  simp only [vc_crossbarlaw08_ElemPads, VC.H_cond, VC.H_ret, VC.H_call1, VC.H_call2, VC.H_call3, ev_var, ev_int, ev_bool, ev_neq, ev_gtr, ev_not, ev_ite, ev_len, ea_nil, ea_cons, env_zero, env_succ, env_cons, env_nil, List.map_cons, List.map_nil, List.zip_cons_cons, List.zip_nil_right, v_int, v_bool, v_ls, bool_ite, pres_nil, orT, orF, notT, notF, nnE, decide_eq_true_eq, decide_eq_false_iff_not, forall_const, Int.not_lt, ofBytes_length, List.length_map]
  refine ⟨_, pc_law08_awake, fun h => by simp at h, fun _ => ?_⟩
  refine ⟨_, pc_ref08_Short l hl, fun _ => trivial, fun hs => ?_⟩
  simp only [v_bool] at hs
  obtain ⟨hs1, hs2, hs3⟩ : elShort l = true ∧ l.length ≤ 100 ∧ more.length ≤ 300 := by
    cases hh : elShort l
    · simp [hh] at hs
    · simp [hh] at hs; exact ⟨rfl, by omega, by omega⟩
  by_cases hr : elRight l
  · obtain ⟨w1, w2⟩ := elw_right hr
    obtain ⟨y1, y2, y3⟩ := read_bytes hr
    have yl := elBytes_len hr (by omega)
    have w := pc_elem_Write l (by omega)
    rw [w1, w2] at w
    have sp := pc_elem_Spots _ (prof_lt l) (elBytes l) (by omega)
    rw [y1, y3] at sp
    have hp := elProfile_eq hr
    obtain ⟨hfit, hnd⟩ := elRight_fits hr
    have hmem := right_mem hr
    have hbytes : elBytes l = elRaw (elNarrow l) l ++ List.replicate ((4 - (elRaw (elNarrow l) l).length % 4) % 4) 0 := rfl
    have hlay := layAt_bare (elNarrow l) l 0
    have hll : (layAt (elNarrow l) 0 (bare l)).length = l.length := by rw [layAt_length]; simp [bare]
    have hsnd := padL_snd pads l
    have hfl := lay_len (elNarrow l) pads l (fun e he => (hmem e he).2.2)
    rw [hp] at w sp
    have rdl : ∀ (q : Nat) (r : List UInt8), isProf (elNarrow l) q → tailOk (elNarrow l) r → spots q (lay (elNarrow l) (padL pads l l.length) ++ r) = (layAt (elNarrow l) 0 (padL pads l l.length), 0) ∧ elRead q (lay (elNarrow l) (padL pads l l.length) ++ r) = l := by
      intro q r h1 h2
      have := read_lay (nar := elNarrow l) (l := padL pads l l.length) (q := q) (r := r) h1 (fun x hx => hfit _ (by rw [← hsnd]; exact List.mem_map.2 ⟨x, hx, rfl⟩)) (by
        have e : (padL pads l l.length).map (fun x => x.2.id.toNat) = ((padL pads l l.length).map (·.2)).map fun e => e.id.toNat := by rw [List.map_map]; rfl
        rw [e, hsnd]
        exact hnd) h2
      rw [hsnd] at this
      exact this
    have same := pc_ref08_Same l l (by omega)
    rw [decide_eq_true rfl] at same
    have hel := elBytes_inj (l := l) (m := l) hr hr
    generalize hnar : elNarrow l = nar at *
    refine ⟨_, _, _, w, _, _, sp, fun hc => ?_, fun _ => ?_⟩
    · exfalso
      simp [hll] at hc
    · have hah : (if ((profOf nar : Nat) : Int) = 48862 then (C.int 1) else C.int 2).toInt = ((Plain.ahead nar : Nat) : Int) := by cases nar <;> rfl
      have hah2 : (if ((profOf nar : Nat) : Int) = 48862 then (1 : Int) else 2) = ((Plain.ahead nar : Nat) : Int) := by cases nar <;> rfl
      refine VC.go_loop (fun i : Nat => [.bool false, B (lay nar (padL pads l i)), .int (i : Int)]) (fun i => i ≤ l.length) (fun i => l.length - i) 0 (by simp [E.eval, padL, lay, ofBytes]) (Nat.zero_le _) fun i hi => ?_
      have hdl := hfl i hi
      simp only [VC.H_asrt, VC.H_cond, VC.H_ret, VC.H_back, VC.H_call1, VC.H_call2, ev_var, ev_int, ev_bool, ev_nil, ev_cons, ev_hd, ev_tl, ev_bin, ev_add, ev_sub', ev_mul, ev_eql, ev_lss, ev_leq, ev_gtr, ev_geq, ev_not, ev_ite, ev_conv, ev_len, ev_idx, ev_sub, ev_app, ev_rep, ev_fits64, ea_nil, ea_cons, env_zero, env_succ, env_cons, env_nil, List.map_cons, List.map_nil, v_int, v_bool, v_ls, toBool_ite, int_ite, bool_ite, pres_nil, pres_cons, orT, orF, andT, decide_eq_true_eq, decide_eq_false_iff_not, forall_const, and_true, Int.not_lt, List.length_map, ofBytes_length, ofBytes_getD, Int.toNat_natCast, atD, hah2, hll]
      refine ⟨fun hc => ?_, fun hc => ?_⟩
      · have hk : i < l.length := by omega
        have hg := sp_getD (layAt nar 0 (bare l)) i (by omega)
        rw [Int.toNat_natCast, hlay i hk] at hg
        obtain ⟨c1, c2⟩ := enc_cut nar l i hk (List.replicate ((4 - (elRaw nar l).length % 4) % 4) 0)
        rw [← hbytes] at c1
        have hel2 : (elRaw nar l).length ≤ (elBytes l).length := by rw [hbytes]; simp
        have hsucc := lay_succ nar pads l i
        have hm2 := hmem _ (el_mem hk)
        have henc := enc_length nar (l.getD i El.zero)
        have hah3 : 1 ≤ Plain.ahead nar ∧ Plain.ahead nar ≤ 2 := by unfold Plain.ahead; split <;> omega
        generalize l.getD i El.zero = e at hg c1 c2 hsucc henc hm2
        generalize (elRaw nar (l.take i)).length = pos at hg c1 c2
        simp only [hg, v_hd, v_tl, v_int, rem9 _ (at_lt pads i)]
        have n1 : ((0 + pos + Plain.ahead nar : Nat) : Int) - ((Plain.ahead nar : Nat) : Int) = (pos : Int) := by omega
        have n2 : ((0 + pos + Plain.ahead nar : Nat) : Int) + (e.data.length : Int) = ((pos + (enc nar e).length : Nat) : Int) := by omega
        have hcut : List.drop pos (List.take (pos + (enc nar e).length) (ofBytes (elBytes l))) = ofBytes (enc nar e) := by rw [ofBytes_take, ofBytes_drop, c1]
        simp only [n1, n2, Int.toNat_natCast, hcut, ofBytes_length]
        refine ⟨fun hp1 => ?_, fun hp1 => ?_⟩
        · have hpn : padN pads i = at_ pads i % 9 := if_pos (by omega)
          rw [if_pos (show (0 : Int) ≤ ((at_ pads i % 9 : Nat) : Int) by omega), Int.toNat_natCast]
          simp only [List.length_replicate]
          refine ⟨by omega, by omega, by omega, by omega, by omega, fun _ => by omega, fun _ => by omega, fun _ => by omega, fun _ => by omega, fun _ => by omega, fun _ => by omega, fun _ => by omega, fun _ => by omega, fun _ => by omega, fun h => ?_, fun h => ?_⟩
          · exfalso; omega
          · refine ⟨by omega, by omega, by omega, by omega, by omega, by omega, by omega, by omega, by omega, by omega, by omega, by omega, by omega, i + 1, ?_, by omega, by omega⟩
            rw [hsucc, hpn, ofBytes_rep, ofBytes_append, ofBytes_append, List.append_assoc]
            simp
        · have hpn : padN pads i = 0 := if_neg (by omega)
          refine ⟨by omega, by omega, fun _ => by omega, fun _ => by omega, fun _ => by omega, fun _ => by omega, fun _ => by omega, fun _ => by omega, fun _ => by omega, fun _ => by omega, fun _ => by omega, fun h => ?_, fun h => ?_⟩
          · exfalso; omega
          · refine ⟨by omega, by omega, by omega, by omega, by omega, by omega, by omega, by omega, by omega, by omega, by omega, by omega, by omega, i + 1, ?_, by omega, by omega⟩
            rw [hsucc, hpn, ofBytes_append]
            simp
      · have hi2 : i = l.length := by omega
        rw [hi2] at hdl ⊢
        simp only [quo16 low hlow, low16 low hlow]
        rw [if_pos (show (0 : Int) ≤ ((low / 16 : Nat) : Int) by omega), Int.toNat_natCast]
        simp only [ofBytes_rep, ofBytes_append, ofBytes_length, List.length_replicate]
        refine ⟨by omega, fun hw => ?_, fun hw => ?_⟩
        · have hn : nar = false := by
            cases nar
            · rfl
            · simp [profOf] at hw
          subst hn
          have hq : IntKind.u16.wrap (4096 + IntKind.u16.wrap ((low % 16 : Nat) : Int)) = ((4096 + low % 16 : Nat) : Int) := by
            rw [wrapu16, wrapu16]; omega
          have hadd : arith .add .u16 ((profOf false : Nat) : Int) (IntKind.u16.wrap ((low % 16 : Nat) : Int)) = ((4096 + low % 16 : Nat) : Int) := hq
          obtain ⟨r1, r2⟩ := rdl (4096 + low % 16) (List.replicate (low / 16) 0) (by simp only [isProf, Bool.false_eq_true, if_false]; omega) ⟨_, .inl rfl⟩
          have rd := pc_elem_Read (4096 + low % 16) (by omega) (lay false (padL pads l l.length) ++ List.replicate (low / 16) 0) (by simp; omega)
          rw [r1, r2] at rd
          rw [hadd]
          refine ⟨_, _, rd, _, fun _ => same, _, fun _ => pc_elem_Canon _ (by omega) _ (by simp; omega), ?_⟩
          simp [profOf]
        · have hn : nar = true := by
            cases nar
            · simp [profOf] at hw
            · rfl
          subst hn
          have hadd : arith .add .u8 240 ((low % 16 : Nat) : Int) = (((UInt8.ofNat (240 + low % 16)).toNat : Nat) : Int) := by
            show IntKind.u8.wrap (240 + ((low % 16 : Nat) : Int)) = _
            rw [show (240 : Int) + ((low % 16 : Nat) : Int) = ((240 + low % 16 : Nat) : Int) by omega, byte_nat]
          have hx : (UInt8.ofNat (240 + low % 16)).toNat = 240 + low % 16 := by simp; omega
          have hone : [C.int (((UInt8.ofNat (240 + low % 16)).toNat : Nat) : Int)] = ofBytes [UInt8.ofNat (240 + low % 16)] := rfl
          rw [hadd, hone]
          simp only [ofBytes_append, ofBytes_length, List.length_cons, List.length_nil]
          have happ : (lay true (padL pads l l.length) ++ List.replicate (low / 16) 0 ++ [UInt8.ofNat (240 + low % 16)]) ++ more = lay true (padL pads l l.length) ++ (List.replicate (low / 16) 0 ++ UInt8.ofNat (240 + low % 16) :: more) := by simp
          obtain ⟨r1, r2⟩ := rdl 48862 (List.replicate (low / 16) 0 ++ UInt8.ofNat (240 + low % 16) :: more) (by simp [isProf]) ⟨_, .inr ⟨rfl, _, more, by rw [hx]; omega, rfl⟩⟩
          rw [happ]
          generalize hdata : lay true (padL pads l l.length) ++ (List.replicate (low / 16) 0 ++ UInt8.ofNat (240 + low % 16) :: more) = data at r1 r2
          have hdlen : data.length ≤ 100000 := by rw [← hdata]; simp; omega
          have rd := pc_elem_Read 48862 (by omega) data (by omega)
          rw [r1, r2] at rd
          have cn := pc_elem_Canon 48862 (by omega) data (by omega)
          have cf : elCanon 48862 data = false := by
            unfold elCanon
            rw [r1, r2]
            refine decide_eq_false fun h => ?_
            have hne := lay_end_ne (UInt8.ofNat (240 + low % 16)) (by rw [hx]; omega) (low / 16) more (padL pads l l.length) ((4 - (elRaw true l).length % 4) % 4) (fun y hy => hfit _ (by rw [← hsnd]; exact List.mem_map.2 ⟨y, hy, rfl⟩))
            rw [hsnd, ← hbytes, hdata] at hne
            exact hne h.2.2.symm
          rw [cf] at cn
          refine ⟨by omega, by omega, _, _, rd, _, fun _ => same, _, fun _ => cn, ?_⟩
          simp [profOf]
  · have w1 : elwB l = [] := if_neg hr
    have w2 : elwE l = 1 := if_neg hr
    have w3 : elProfile l = 0 := if_neg hr
    have w := pc_elem_Write l (by omega)
    rw [w1, w2, w3] at w
    refine ⟨_, _, _, w, _, _, pc_elem_Spots 0 (by omega) [] (by simp), fun _ => ?_, fun hc => ?_⟩
    · rfl
    · exfalso
      simp at hc
end Go.Vc
