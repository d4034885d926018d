/- ReadEdns: the law's run. -/
import Derived.Test.YtfamnghjibckbaaRe4
namespace Go.Vm
set_option linter.unusedVariables false
set_option linter.unusedSimpArgs false
theorem opsD_len : ∀ (n : Nat) (d : List UInt8) (os : List Opt), d.length ≤ n → opsD d = some os → os.length ≤ d.length
  | n, d, os, hn, h => by
    by_cases h0 : d = []
    · subst h0; rw [opsD_nil] at h; cases h; simp
    · have hp := List.length_pos_iff.2 h0
      by_cases h1 : d.length < 4 + num ((d.drop 2).take 2) 0
      · rw [opsD_bad h0 h1] at h; cases h
      · rw [opsD_ok h0 h1] at h
        cases hr : opsD (d.drop (4 + num ((d.drop 2).take 2) 0)) with
        | none => rw [hr] at h; cases h
        | some q =>
          rw [hr] at h
          cases h
          match n with
          | 0 => omega
          | n + 1 =>
            have := opsD_len n _ q (by simp; omega) hr
            simp at this ⊢
            omega
theorem rdE_len {m : Msg} (hs : szM m ≤ 1048576) : (rdE m).1.os.length ≤ 1048576 := by
  rw [rdE]
  split
  · simp [ed0]
  · cases hf : m.ex.filter isOpt with
    | nil => simp [ed0]
    | cons r q =>
      simp only
      have hmem : r ∈ m.ex := (List.mem_filter.1 (by rw [hf]; simp : r ∈ m.ex.filter isOpt)).1
      have hw := tot_mem' (w := w_RR) hmem
      cases ho : opsD r.d with
      | none => simp [ed0]
      | some os =>
        simp only
        have := opsD_len _ _ _ (Nat.le_refl _) ho
        unfold szM at hs
        simp only [w_RR] at hw
        split
        · simp only [edR]; omega
        · simp [ed0]
def T_ReadEdns (C : Tab) (f : Nat) : Prop := ∀ (q a b c : AV) (m : Msg) (H : AH), MsgS H q a b c m → szM m ≤ 1048576 → ∃ v H', C f [mV m.h q a b c] H = some (v, H') ∧ RePost (rdE m) H v H'
theorem mV_out (h : Hd) (q a b c : AV) : (mV h q a b c).outs = true := rfl
theorem edV_out (e : Ed) (a : AV) : (edV e a).outs = true := rfl
theorem MsgM.lt {H : AH} {q a b c : AV} {m : Msg} {n0 : Nat} (h : MsgM H n0 q a b c m) : ∀ i, i ∈ idA q ++ idA a ++ idA b ++ idA c → i < H.n := fun i hi => by
  simp only [List.mem_append] at hi
  rcases hi with ((hi | hi) | hi) | hi
  · exact Mn.lt h.hq i hi
  · exact Mn.lt h.ha i hi
  · exact Mn.lt h.hb i hi
  · exact Mn.lt h.hc i hi
section
variable {C : Tab}
set_option maxRecDepth 100000 in
theorem r_law_ReadEdns {q a b c : AV} {m : Msg} {H : AH} (hS : T_szMessage C n_laws_szMessage) (hT : T_toMessage C n_laws_toMessage) (hE : T_eqEdns C n_laws_eqEdns) (hQ : T_eqMessage C n_laws_eqMessage) (hM : T_markMessage C n_laws_markMessage) (hK : T_markEdns C n_laws_markEdns) (hL : T_heldEdns C n_laws_heldEdns)
    (h6 : T_ReadEdns C n_spec_ReadEdns) (h8 : T_ReadEdns C n_impl_ReadEdns) (h : MsgS H q a b c m) (hp : preM m) : Runs C c_laws_FnExactReadEdns [mV m.h q a b c] H fun v _ => v = .b true := by
  unfold Runs c_laws_FnExactReadEdns
  have o1 := h.hq.out
  have o2 := h.ha.out
  have o3 := h.hb.out
  have o4 := h.hc.out
  have k1 := hS q a b c m 1048576 H h hp (by omega) (by omega)
  by_cases hlt : (1048576 : Int) - szM m < 0
  · rw [if_pos hlt] at k1
    simp only [mV] at k1 ⊢
    simp -implicitDefEqProofs only [x_q, x_o, x_b, x_k, x_x, x_r, x_it, x_if, x_p, p_nil, p_on, p_off, p_mv, p_pk, p_bn, p_un, p_be, p_nl, p_eqa, p_ci, p_cbs, p_csb, p_ex, p_bd, p_fd, p_ix, p_ixa, p_ss, p_sl, p_sla, p_ln, p_lns, p_lnm, p_al, p_bx, p_lal, p_lbx, p_ld, p_st, p_fa, p_ia, p_iaa, p_bs, p_lbs, p_mk, p_ap, p_cp, p_cl, p_cv, p_mf, p_nc, p_mm, p_mkm, p_lk, p_mu, p_dl, p_rs, p_nx, cfC, lgPut, isOk, rv, rh, Bool.false_eq_true, d_nil, d_on, d_off, d_mv, d_pk, d_bn, d_un, d_be, d_nl, d_eqa, d_ci, d_cbs, d_csb, d_ex, d_bd, d_fd, d_ix, d_ixa, d_ss, d_sl, d_sla, d_ln, d_lns, d_lnm, d_al, d_bx, d_lal, d_lbx, d_ld, d_st, d_fa, d_ia, d_iaa, d_bs, d_lbs, d_mk, d_ap, d_cp, d_cl, d_cv, d_mf, d_nc, d_mm, d_mkm, d_lk, d_mu, d_dl, d_rs, d_nx, okO, vlO, mmO, dsO, putE, args, evT, evs, evO, look, kOps, kSeq, kBlk, keepE, reduceIte, Nat.reduceEqDiff, binC, binV, intC, intV, strC, strV, unC, unV, AV.isI, AV.isB, AV.isS, AV.toI, AV.toK, AV.toS, allOut, o_b, o_i, o_s, o_np, o_pv, o_pe, o_ns, o_sl, o_nm, o_mp, o_nf, o_fn, o_ag, q_b, q_i, q_s, q_np, q_pv, q_pe, q_ns, q_sl, q_nm, q_mp, q_nf, q_fn, q_ag, Bool.and_true, Bool.and_self, Bool.true_and, AV.b.injEq, decide_eq_true_eq, decide_eq_false_iff_not, true_and, and_true, and_self, reduceCtorEq, imp_self, implies_true, forall_const, eq_self, ex_tp, ex_ag, List.getD_cons_zero, List.getD_cons_succ, List.length_cons, List.length_nil, Nat.reduceAdd, Nat.reduceLT, Nat.zero_add, bne_self_eq_false, decide_true, decide_false, eq_self, true_implies, false_implies, forall_const, Bool.true_eq_false, Bool.not_true, Bool.not_false, not_true_eq_false, not_false_eq_true, if_true, if_false, pickV, cond_true, cond_false, boolV, fillEC, fillE, List.replicate, List.set, Mem.newL, Mem.keep, Int.reduceToNat, Nat.reduceSub, List.drop_zero, Int.reduceLE, Int.le_refl, Nat.sub_zero, Mem.newL, Mem.newL, Mem.getL, Mem.hasL, lookL, setL, dropL, keepL, memN, la_faC, la_faV, la_ldC, la_ldX, la_stC, la_stM, partOf, partFits, setEl, setPart, Option.isSome_some, Option.getD_some, List.take_succ_cons, List.take_zero, List.drop_succ_cons, List.drop_zero, List.nil_append, List.cons_append, List.getD_cons_zero, List.getD_cons_succ, List.length_cons, List.length_nil, List.set_cons_zero, List.append_nil, List.drop_nil, List.take_nil, Nat.reduceAdd, Nat.reduceLT, Nat.reduceLeDiff, Nat.zero_add, Nat.add_zero, Nat.lt_add_one, Nat.le_refl, Nat.zero_le, Nat.zero_lt_succ, fillP, fillC, Nat.reduceLeDiff, lgAt, isRd, o1, o2, o3, o4, k1, Int.reduceNeg, Int.reduceLT, endK, rsC, rsV, resV]
  rw [if_neg hlt] at k1
  have hs : szM m ≤ 1048576 := by omega
  obtain ⟨v1, H1, k2, q1, a1, b1, c1, rfl, e1, m1⟩ := hT q a b c m H h hs
  obtain ⟨v2, H2, k3, w, rfl, w2, e2, i2⟩ := h6 q1 a1 b1 c1 m H1 m1.s hs
  have f2 := e1.trans e2
  obtain ⟨v3, H3, k4, q3, a3, b3, c3, rfl, e3, m3⟩ := hT q a b c m H2 (h.ext f2) hs
  have f3 := f2.trans e3
  obtain ⟨v4, H4, k5, g, rfl, g4, e4, i4⟩ := h8 q3 a3 b3 c3 m H3 m3.s hs
  have f4 := f3.trans e4
  have hlen := rdE_len hs
  have w4 : Mx H4 eO w (rdE m).1.os := Mn.ext w2 (e3.trans e4)
  have k6 := hE (rdE m).1 g w H4 g4.sl w4.sl (by omega)
  obtain ⟨v5, H5, k7, q5, a5, b5, c5, rfl, e5, m5⟩ := hT q a b c m H4 (h.ext f4) hs
  have f5 := f4.trans e5
  have m35 := m3.ext (e4.trans e5)
  have k8 := hQ q3 a3 b3 c3 q5 a5 b5 c5 m H5 m35.s m5.s hs
  have hmk : mkN 1 m ≤ 1099511627776 := by unfold mkN; unfold szM at hs; omega
  obtain ⟨v6, H6, k9, rfl, m6, p6⟩ := hM q3 a3 b3 c3 m 1 H2.n H5 m35 hmk
  have hk0 : ¬ ((mkN 1 m : Nat) : Int) < 0 := by omega
  have f6 : Ext H H6 := f5.put (fun i hi => Nat.le_trans f2.n (m3.ge i hi)) p6.n p6.at'
  have w6 : Mx H6 eO w (rdE m).1.os := p6.mn (Mn.ext w4 e5) fun i hi hm => by
    have := Mn.lt w2 i hi
    have := m3.ge i hm
    omega
  have g6 : Mx H6 eO g (rdE m).1.os := p6.mn (Mn.ext g4 e5) fun i hi hm => by
    have := i4 i hi
    have := m3.lt i hm
    omega
  have k10 := hE (rdE m).1 g w H6 g6.sl w6.sl (by omega)
  obtain ⟨v7, H7, k11, ⟨rfl, g7⟩, p7⟩ := hK (rdE m).1 g 1 H6 g6 (by omega)
  have hgw : ∀ i, i ∈ idA w → ¬ i ∈ idA g := fun i hi hm => by
    have := Mn.lt w2 i hi
    have := i4 i hm
    have := e3.n
    omega
  have w7 : Mx H7 eO w (rdE m).1.os := p7.mn w6 hgw
  have f7 : Ext H H7 := f6.put (fun i hi => Nat.le_trans f3.n (i4 i hi)) p7.n p7.at'
  obtain ⟨v8, H8, k12, rfl, e8⟩ := hL (rdE m).1 g 1 (rdE m).1.os.length H7 g7.sl (by omega)
  have hk1 : ¬ ((1 + 2 * (rdE m).1.os.length : Nat) : Int) < 0 := by omega
  have f8 := f7.trans e8
  obtain ⟨v9, H9, k13, q9, a9, b9, c9, rfl, e9, m9⟩ := hT q a b c m H8 (h.ext f8) hs
  obtain ⟨v10, H10, k14, g', rfl, g10, e10, i10⟩ := h8 q9 a9 b9 c9 m H9 m9.s hs
  have k15 := hE (rdE m).1 g' w H10 g10.sl (Mn.sl (Mn.ext w7 ((e8.trans e9).trans e10))) (by omega)
  obtain ⟨v11, H11, k16, rfl, e11⟩ := hL (rdE m).1 g 1 (rdE m).1.os.length H10 (Mn.sl (Mn.ext g7 ((e8.trans e9).trans e10))) (by omega)
  have og := g4.sl.out
  have ow := w2.sl.out
  have og' := g10.sl.out
  have og2 := g4.sl.one
  have ow2 := w2.sl.one
  have og2' := g10.sl.one
  have y1 := m3.hq.sl.out
  have y2 := m3.ha.sl.out
  have y3 := m3.hb.sl.out
  have y4 := m3.hc.sl.out
  have y5 := m5.hq.sl.out
  have y6 := m5.ha.sl.out
  have y7 := m5.hb.sl.out
  have y8 := m5.hc.sl.out
  clear hS hT hE hQ hM hK hL h6 h8 h hp m1 m3 m5 m6 m9 m35 p6 p7 e1 e2 e3 e4 e5 e8 e9 e10 e11 f2 f3 f4 f5 f6 f7 f8 w2 w4 w6 w7 g4 g6 g7 g10 hgw i2 i4 i10 hlen hmk
  generalize rdE m = r at *
  generalize ((1 + 2 * r.1.os.length : Nat) : Int) = n2 at *
  generalize ((mkN 1 m : Nat) : Int) = n1 at *
  have c1' : ((1 : Nat) : Int) = 1 := rfl
  simp only [mV, edV, c1'] at k1 k2 k3 k4 k5 k6 k7 k8 k9 k10 k11 k12 k13 k14 k15 k16 ⊢
  simp -implicitDefEqProofs only [x_q, x_o, x_b, x_k, x_x, x_r, x_it, x_if, x_p, p_nil, p_on, p_off, p_mv, p_pk, p_bn, p_un, p_be, p_nl, p_eqa, p_ci, p_cbs, p_csb, p_ex, p_bd, p_fd, p_ix, p_ixa, p_ss, p_sl, p_sla, p_ln, p_lns, p_lnm, p_al, p_bx, p_lal, p_lbx, p_ld, p_st, p_fa, p_ia, p_iaa, p_bs, p_lbs, p_mk, p_ap, p_cp, p_cl, p_cv, p_mf, p_nc, p_mm, p_mkm, p_lk, p_mu, p_dl, p_rs, p_nx, cfC, lgPut, isOk, rv, rh, Bool.false_eq_true, d_nil, d_on, d_off, d_mv, d_pk, d_bn, d_un, d_be, d_nl, d_eqa, d_ci, d_cbs, d_csb, d_ex, d_bd, d_fd, d_ix, d_ixa, d_ss, d_sl, d_sla, d_ln, d_lns, d_lnm, d_al, d_bx, d_lal, d_lbx, d_ld, d_st, d_fa, d_ia, d_iaa, d_bs, d_lbs, d_mk, d_ap, d_cp, d_cl, d_cv, d_mf, d_nc, d_mm, d_mkm, d_lk, d_mu, d_dl, d_rs, d_nx, okO, vlO, mmO, dsO, putE, args, evT, evs, evO, look, kOps, kSeq, kBlk, keepE, reduceIte, Nat.reduceEqDiff, binC, binV, intC, intV, strC, strV, unC, unV, AV.isI, AV.isB, AV.isS, AV.toI, AV.toK, AV.toS, allOut, o_b, o_i, o_s, o_np, o_pv, o_pe, o_ns, o_sl, o_nm, o_mp, o_nf, o_fn, o_ag, q_b, q_i, q_s, q_np, q_pv, q_pe, q_ns, q_sl, q_nm, q_mp, q_nf, q_fn, q_ag, Bool.and_true, Bool.and_self, Bool.true_and, AV.b.injEq, decide_eq_true_eq, decide_eq_false_iff_not, true_and, and_true, and_self, reduceCtorEq, imp_self, implies_true, forall_const, eq_self, ex_tp, ex_ag, List.getD_cons_zero, List.getD_cons_succ, List.length_cons, List.length_nil, Nat.reduceAdd, Nat.reduceLT, Nat.zero_add, bne_self_eq_false, decide_true, decide_false, eq_self, true_implies, false_implies, forall_const, Bool.true_eq_false, Bool.not_true, Bool.not_false, not_true_eq_false, not_false_eq_true, if_true, if_false, pickV, cond_true, cond_false, boolV, fillEC, fillE, List.replicate, List.set, Mem.newL, Mem.keep, Int.reduceToNat, Nat.reduceSub, List.drop_zero, Int.reduceLE, Int.le_refl, Nat.sub_zero, Mem.newL, Mem.newL, Mem.getL, Mem.hasL, lookL, setL, dropL, keepL, memN, la_faC, la_faV, la_ldC, la_ldX, la_stC, la_stM, partOf, partFits, setEl, setPart, Option.isSome_some, Option.getD_some, List.take_succ_cons, List.take_zero, List.drop_succ_cons, List.drop_zero, List.nil_append, List.cons_append, List.getD_cons_zero, List.getD_cons_succ, List.length_cons, List.length_nil, List.set_cons_zero, List.append_nil, List.drop_nil, List.take_nil, Nat.reduceAdd, Nat.reduceLT, Nat.reduceLeDiff, Nat.zero_add, Nat.add_zero, Nat.lt_add_one, Nat.le_refl, Nat.zero_le, Nat.zero_lt_succ, fillP, fillC, Nat.reduceLeDiff, lgAt, isRd, o1, o2, o3, o4, og, ow, og', og2, ow2, og2', y1, y2, y3, y4, y5, y6, y7, y8, hlt, hk0, hk1, k1, k2, k3, k4, k5, k6, k7, k8, k9, k10, k11, k12, k13, k14, k15, k16, endK, rsC, rsV, resV]
end
end Go.Vm
