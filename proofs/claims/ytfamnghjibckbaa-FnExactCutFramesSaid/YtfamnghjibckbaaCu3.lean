/- The run of the law of CutFrames. -/
import Derived.Test.YtfamnghjibckbaaCu2
namespace Go.Vm
set_option linter.unusedVariables false
set_option linter.unusedSimpArgs false
def T_eqByteSS (C : Tab) (f : Nat) : Prop := ∀ a b els els' ls H, Sl H 1 a els → Sl H 1 b els' → All2 (Byt H) els ls → All2 (Byt H) els' ls → tot ls ≤ 1099511627776 → ls.length ≤ 1099511627776 → C f [a, b] H = some (.b true, H)
def T_markByteSS (C : Tab) (f : Nat) : Prop := ∀ (a : AV) (els : List AV) (ls : List (List UInt8)) (k : Nat) (H : AH), Sl H 1 a els → All2 (Mb H) els ls → (idA a ++ els.flatMap idA).Nodup → k + tot ls ≤ 1099511627776 → ls.length ≤ 1099511627776 →
  ∃ H', C f [a, .i .i64 k] H = some (.i .i64 ((k + tot ls : Nat) : Int), H') ∧ All2 (Mb H') els (marksS k ls) ∧ H'.n = H.n ∧ ∀ i, ¬ i ∈ els.flatMap idA → H'.at' i = H.at' i
def T_heldByteSS (C : Tab) (f : Nat) : Prop := ∀ (a : AV) (els : List AV) (ls : List (List UInt8)) (k : Nat) (H : AH), Sl H 1 a els → All2 (Byt H) els (marksS k ls) → k + tot ls ≤ 1099511627776 → ls.length ≤ 1099511627776 → C f [a, .i .i64 k] H = some (.i .i64 ((k + tot ls : Nat) : Int), H)
def T_cut (C : Tab) (f : Nat) : Prop := ∀ a b la lb H, Byt H a la → Byt H b lb → ∃ v H', C f [a, b] H = some (v, H') ∧ CutPost H (cutR la lb) v H'
theorem cutR_le {la lb : List UInt8} (ha : la.length ≤ 1048576) (hb : lb.length ≤ 1048576) : tot (cutR la lb).1 ≤ 2097152 ∧ (cutR la lb).1.length ≤ 2097152 ∧ (cutR la lb).2.1.length ≤ 2097152 := by
  unfold cutR
  split
  · simp [tot]
  · obtain ⟨h1, h2⟩ := cut_le (la ++ lb).length (la ++ lb) (Nat.le_refl _)
    simp only [List.length_append] at h1 h2
    omega
theorem All2.byt {H : AH} {els : List AV} {ls : List (List UInt8)} (h : All2 (Mb H) els ls) : All2 (Byt H) els ls := h.mono fun _ _ h => Mn.sl h
section
variable {C : Tab}
set_option maxRecDepth 100000 in
set_option maxHeartbeats 8000000 in
theorem r_law_CutFrames {a b : AV} {la lb : List UInt8} {H0 : AH} (t7 : T_toByteS C n_laws_toByteS) (t10 : T_eqByteS C n_laws_eqByteS) (t9 : T_eqByteSS C n_laws_eqByteSS) (t11 : T_markByteS C n_laws_markByteS) (t12 : T_markByteSS C n_laws_markByteSS) (t14 : T_heldByteS C n_laws_heldByteS) (t13 : T_heldByteSS C n_laws_heldByteSS)
    (t6 : T_cut C n_spec_CutFrames) (t8 : T_cut C n_impl_CutFrames) (ha : Byt H0 a la) (hb : Byt H0 b lb) : Runs C c_laws_FnExactCutFrames [a, b] H0 fun v _ => v = .b true := by
  unfold Runs c_laws_FnExactCutFrames
  obtain ⟨u1, u2⟩ := Byt.len ha
  obtain ⟨u3, u4⟩ := Byt.len hb
  by_cases hA : (1048576 : Int) < la.length
  · simp only [x_q, x_o, x_b, x_k, x_x, x_r, x_it, x_if, x_p, p_nil, p_on, p_off, p_mv, p_pk, p_bn, p_un, p_be, p_nl, p_eqa, p_ci, p_cbs, p_csb, p_ex, p_bd, p_fd, p_ix, p_ixa, p_ss, p_sl, p_sla, p_ln, p_lns, p_lnm, p_al, p_bx, p_lal, p_lbx, p_ld, p_st, p_fa, p_ia, p_iaa, p_bs, p_lbs, p_mk, p_ap, p_cp, p_cl, p_cv, p_mf, p_nc, p_mm, p_mkm, p_lk, p_mu, p_dl, p_rs, p_nx, cfC, lgPut, isOk, rv, rh, Bool.false_eq_true, d_nil, d_on, d_off, d_mv, d_pk, d_bn, d_un, d_be, d_nl, d_eqa, d_ci, d_cbs, d_csb, d_ex, d_bd, d_fd, d_ix, d_ixa, d_ss, d_sl, d_sla, d_ln, d_lns, d_lnm, d_al, d_bx, d_lal, d_lbx, d_ld, d_st, d_fa, d_ia, d_iaa, d_bs, d_lbs, d_mk, d_ap, d_cp, d_cl, d_cv, d_mf, d_nc, d_mm, d_mkm, d_lk, d_mu, d_dl, d_rs, d_nx, okO, vlO, mmO, dsO, putE, args, evT, evs, evO, look, kOps, kSeq, kBlk, keepE, reduceIte, Nat.reduceEqDiff, binC, binV, intC, intV, strC, strV, unC, unV, AV.isI, AV.isB, AV.isS, AV.toI, AV.toK, AV.toS, allOut, o_b, o_i, o_s, o_np, o_pv, o_pe, o_ns, o_sl, o_nm, o_mp, o_nf, o_fn, o_ag, q_b, q_i, q_s, q_np, q_pv, q_pe, q_ns, q_sl, q_nm, q_mp, q_nf, q_fn, q_ag, Bool.and_true, Bool.and_self, Bool.true_and, AV.b.injEq, decide_eq_true_eq, decide_eq_false_iff_not, true_and, and_true, and_self, reduceCtorEq, imp_self, implies_true, forall_const, eq_self, ex_tp, ex_ag, List.getD_cons_zero, List.getD_cons_succ, List.length_cons, List.length_nil, Nat.reduceAdd, Nat.reduceLT, Nat.zero_add, bne_self_eq_false, decide_true, decide_false, eq_self, true_implies, false_implies, forall_const, Bool.true_eq_false, Bool.not_true, Bool.not_false, not_true_eq_false, not_false_eq_true, if_true, if_false, pickV, cond_true, cond_false, boolV, fillEC, fillE, List.replicate, List.set, Mem.newL, Mem.keep, Int.reduceToNat, Nat.reduceSub, List.drop_zero, Int.reduceLE, Int.le_refl, Nat.sub_zero, Mem.newL, u1, u2, hA, endK, rsC, rsV, resV]
  · by_cases hB : (1048576 : Int) < lb.length
    · simp only [x_q, x_o, x_b, x_k, x_x, x_r, x_it, x_if, x_p, p_nil, p_on, p_off, p_mv, p_pk, p_bn, p_un, p_be, p_nl, p_eqa, p_ci, p_cbs, p_csb, p_ex, p_bd, p_fd, p_ix, p_ixa, p_ss, p_sl, p_sla, p_ln, p_lns, p_lnm, p_al, p_bx, p_lal, p_lbx, p_ld, p_st, p_fa, p_ia, p_iaa, p_bs, p_lbs, p_mk, p_ap, p_cp, p_cl, p_cv, p_mf, p_nc, p_mm, p_mkm, p_lk, p_mu, p_dl, p_rs, p_nx, cfC, lgPut, isOk, rv, rh, Bool.false_eq_true, d_nil, d_on, d_off, d_mv, d_pk, d_bn, d_un, d_be, d_nl, d_eqa, d_ci, d_cbs, d_csb, d_ex, d_bd, d_fd, d_ix, d_ixa, d_ss, d_sl, d_sla, d_ln, d_lns, d_lnm, d_al, d_bx, d_lal, d_lbx, d_ld, d_st, d_fa, d_ia, d_iaa, d_bs, d_lbs, d_mk, d_ap, d_cp, d_cl, d_cv, d_mf, d_nc, d_mm, d_mkm, d_lk, d_mu, d_dl, d_rs, d_nx, okO, vlO, mmO, dsO, putE, args, evT, evs, evO, look, kOps, kSeq, kBlk, keepE, reduceIte, Nat.reduceEqDiff, binC, binV, intC, intV, strC, strV, unC, unV, AV.isI, AV.isB, AV.isS, AV.toI, AV.toK, AV.toS, allOut, o_b, o_i, o_s, o_np, o_pv, o_pe, o_ns, o_sl, o_nm, o_mp, o_nf, o_fn, o_ag, q_b, q_i, q_s, q_np, q_pv, q_pe, q_ns, q_sl, q_nm, q_mp, q_nf, q_fn, q_ag, Bool.and_true, Bool.and_self, Bool.true_and, AV.b.injEq, decide_eq_true_eq, decide_eq_false_iff_not, true_and, and_true, and_self, reduceCtorEq, imp_self, implies_true, forall_const, eq_self, ex_tp, ex_ag, List.getD_cons_zero, List.getD_cons_succ, List.length_cons, List.length_nil, Nat.reduceAdd, Nat.reduceLT, Nat.zero_add, bne_self_eq_false, decide_true, decide_false, eq_self, true_implies, false_implies, forall_const, Bool.true_eq_false, Bool.not_true, Bool.not_false, not_true_eq_false, not_false_eq_true, if_true, if_false, pickV, cond_true, cond_false, boolV, fillEC, fillE, List.replicate, List.set, Mem.newL, Mem.keep, Int.reduceToNat, Nat.reduceSub, List.drop_zero, Int.reduceLE, Int.le_refl, Nat.sub_zero, Mem.newL, u1, u2, u3, u4, hA, hB, endK, rsC, rsV, resV]
    · obtain ⟨z1, z2, z3⟩ := cutR_le (la := la) (lb := lb) (by omega) (by omega)
      obtain ⟨v1, H1, a1, b1, e1, f1⟩ := t7 a la H0 ha (by omega)
      obtain ⟨v2, H2, a2, b2, e2, f2⟩ := t7 b lb H1 (hb.ext e1) (by omega)
      obtain ⟨w, H3, a3, w0, wels, w1, rfl, wr, wb, wi, e3⟩ := t6 v1 v2 la lb H2 (b1.sl.ext e2) b2.sl
      have e03 : Ext H0 H3 := (e1.trans e2).trans e3
      obtain ⟨x0, H4, a4, b4, e4, f4⟩ := t7 a la H3 (ha.ext e03) (by omega)
      obtain ⟨x1, H5, a5, b5, e5, f5⟩ := t7 b lb H4 (hb.ext (e03.trans e4)) (by omega)
      obtain ⟨g, H6, a6, g0, gels, g1, rfl, gr, gb, gi, e6⟩ := t8 x0 x1 la lb H5 (b4.sl.ext e5) b5.sl
      have e05 : Ext H0 H5 := (e03.trans e4).trans e5
      have e36 : Ext H3 H6 := (e4.trans e5).trans e6
      have wr6 := wr.ext e36
      have wb6 := wb.ext e36
      have a7 := t9 g0 w0 gels wels _ H6 gr.own.sl wr6.own.sl gr.rows.byt wr6.rows.byt (by omega) (by omega)
      have a8 := t10 g1 w1 _ H6 gb.sl wb6.sl (by omega)
      obtain ⟨y0, H7, a9, b9, e9, f9⟩ := t7 a la H6 (ha.ext (e05.trans e6)) (by omega)
      have a10 := t10 x0 y0 la H7 ((b4.ext (e5.trans (e6.trans e9))).sl) b9.sl (by omega)
      obtain ⟨y1, H8, a11, b11, e11, f11⟩ := t7 b lb H7 (hb.ext (e05.trans (e6.trans e9))) (by omega)
      have e58 : Ext H5 H8 := (e6.trans e9).trans e11
      have a12 := t10 x1 y1 lb H8 ((b5.ext e58).sl) b11.sl (by omega)
      -- the arguments' copies marked
      obtain ⟨H9, a13, b13, n13, o13⟩ := t11 x0 la 1 H8 (b4.ext (e5.trans e58)) (by omega) (by omega)
      have x0i : ∀ i, i ∈ idA x0 → i < H4.n := b4.lt
      have x1i : ∀ i, i ∈ idA x1 → i < H5.n := b5.lt
      have d01 : ∀ i, i ∈ idA x1 → ¬ i ∈ idA x0 := fun i h1 h2 => by have := f5 i h1; have := x0i i h2; omega
      obtain ⟨H10, a14, b14, n14, o14⟩ := t11 x1 lb (1 + la.length) H9 ((b5.ext e58).fr (by omega) fun i hi => o13 i (d01 i hi)) (by omega) (by omega)
      have n45 : H4.n ≤ H5.n := e5.n
      have n34 : H3.n ≤ H4.n := e4.n
      have n56 : H5.n ≤ H6.n := e6.n
      have n68 : H6.n ≤ H8.n := (e9.trans e11).n
      have n03 : H0.n ≤ H3.n := e03.n
      have n23 : H2.n ≤ H3.n := e3.n
      have n02 : H0.n ≤ H2.n := (e1.trans e2).n
      have k10 : ∀ i, i < H3.n ∨ H5.n ≤ i → H10.at' i = H8.at' i := fun i hi => by
        rw [o14 i fun hm => by have := f5 i hm; have := x1i i hm; omega, o13 i fun hm => by have := f4 i hm; have := x0i i hm; omega]
      have gids : ∀ i, i ∈ idA g0 ++ gels.flatMap idA → H5.n ≤ i ∧ i < H6.n := fun i hi => ⟨gr.ge i hi, gr.lt i hi⟩
      have wids : ∀ i, i ∈ idA w0 ++ wels.flatMap idA → i < H3.n := wr.lt
      have gr10 : RowsH H10 H5.n g0 gels (cutR la lb).1 := (gr.ext (e9.trans e11)).fr (by omega) fun i hi => k10 i (.inr (gids i hi).1)
      have gb10 : Mb H10 g1 (cutR la lb).2.1 := (gb.ext (e9.trans e11)).fr (by omega) fun i hi => k10 i (.inr (gi i hi).1)
      have wr10 : RowsH H10 H2.n w0 wels (cutR la lb).1 := (wr6.ext (e9.trans e11)).fr (by omega) fun i hi => k10 i (.inl (wids i hi))
      have wb10 : Mb H10 w1 (cutR la lb).2.1 := (wb6.ext (e9.trans e11)).fr (by omega) fun i hi => k10 i (.inl (wb.lt i hi))
      have a15 := t9 g0 w0 gels wels _ H10 gr10.own.sl wr10.own.sl gr10.rows.byt wr10.rows.byt (by omega) (by omega)
      have a16 := t10 g1 w1 _ H10 gb10.sl wb10.sl (by omega)
      -- the answer marked
      obtain ⟨H11, a17, b17, n17, o17⟩ := t12 g0 gels _ 1 H10 gr10.own.sl gr10.rows gr10.nd (by omega) (by omega)
      have gg : ∀ i, i ∈ idA g1 → ¬ i ∈ gels.flatMap idA := fun i h1 h2 => (gi i h1).2 (List.mem_append_right _ h2)
      obtain ⟨H12, a18, b18, n18, o18⟩ := t11 g1 _ (1 + tot (cutR la lb).1) H11 (gb10.fr (by omega) fun i hi => o17 i (gg i hi)) (by omega) (by omega)
      have g0d : ∀ i, i ∈ idA g0 → ¬ i ∈ gels.flatMap idA := fun i h1 h2 => (List.nodup_append.1 gr.nd).2.2 i h1 i h2 rfl
      have g0e : ∀ i, i ∈ idA g0 → ¬ i ∈ idA g1 := fun i h1 h2 => (gi i h2).2 (List.mem_append_left _ h1)
      have gs12 : Sl H12 1 g0 gels := gr10.own.sl.fr (by omega) fun i hi => by rw [o18 i (g0e i hi), o17 i (g0d i hi)]
      have gm12 : All2 (Mb H12) gels (marksS 1 (cutR la lb).1) := All2.imp_mem (fun x l hx hm => Mn.fr hm (by omega) fun i hi => o18 i fun h => gg i h (List.mem_flatMap.2 ⟨x, hx, hi⟩)) b17
      have a19 := t13 g0 gels _ 1 H12 gs12 gm12.byt (by omega) (by omega)
      have a20 := t14 g1 _ (1 + tot (cutR la lb).1) H12 b18.sl (by omega) (by omega)
      have k12 : ∀ i, i < H3.n → H12.at' i = H8.at' i := fun i hi => by
        rw [o18 i fun hm => by have := (gi i hm).1; omega, o17 i fun hm => by have := (gids i (List.mem_append_right _ hm)).1; omega, k10 i (.inl hi)]
      have e08 : Ext H0 H8 := e05.trans e58
      have ha12 : Byt H12 a la := (ha.ext e08).fr (by omega) fun i hi => k12 i (by have := ha.lt i hi; omega)
      have hb12 : Byt H12 b lb := (hb.ext e08).fr (by omega) fun i hi => k12 i (by have := hb.lt i hi; omega)
      -- once more
      obtain ⟨v3, H13, a21, b21, e21, f21⟩ := t7 a la H12 ha12 (by omega)
      obtain ⟨v4, H14, a22, b22, e22, f22⟩ := t7 b lb H13 (hb12.ext e21) (by omega)
      obtain ⟨h, H15, a23, h0, hels, h1, rfl, hr, hrb, hi, e23⟩ := t8 v3 v4 la lb H14 (b21.sl.ext e22) b22.sl
      have e15 : Ext H12 H15 := (e21.trans e22).trans e23
      have wr15 : RowsH H15 H2.n w0 wels (cutR la lb).1 := ((wr6.ext (e9.trans e11)).fr (H' := H12) (by omega) fun i hi => k12 i (wids i hi)).ext e15
      have wb15 : Mb H15 w1 (cutR la lb).2.1 := ((wb6.ext (e9.trans e11)).fr (H' := H12) (by omega) fun i hi => k12 i (wb.lt i hi)).ext e15
      have a24 := t9 h0 w0 hels wels _ H15 hr.own.sl wr15.own.sl hr.rows.byt wr15.rows.byt (by omega) (by omega)
      have a25 := t10 h1 w1 _ H15 hrb.sl wb15.sl (by omega)
      have a26 := t13 g0 gels _ 1 H15 (gs12.ext e15) (gm12.mono fun _ _ hm => (Mn.ext hm e15).sl) (by omega) (by omega)
      have a27 := t14 g1 _ (1 + tot (cutR la lb).1) H15 (b18.ext e15).sl (by omega) (by omega)
      have bb : ((cutR la lb).2.2 == (cutR la lb).2.2) = true := by simp
      have c1 : ¬ ((1 + la.length + lb.length : Nat) : Int) < 0 := by omega
      have c2 : ¬ ((1 + tot (cutR la lb).1 : Nat) : Int) < 0 := by omega
      have c3 : ¬ ((1 + tot (cutR la lb).1 + (cutR la lb).2.1.length : Nat) : Int) < 0 := by omega
      have one : ((1 : Nat) : Int) = 1 := rfl
      simp only [one, marks_len] at a13 a17 a19 a26 a20 a27
      simp only [x_q, x_o, x_b, x_k, x_x, x_r, x_it, x_if, x_p, p_nil, p_on, p_off, p_mv, p_pk, p_bn, p_un, p_be, p_nl, p_eqa, p_ci, p_cbs, p_csb, p_ex, p_bd, p_fd, p_ix, p_ixa, p_ss, p_sl, p_sla, p_ln, p_lns, p_lnm, p_al, p_bx, p_lal, p_lbx, p_ld, p_st, p_fa, p_ia, p_iaa, p_bs, p_lbs, p_mk, p_ap, p_cp, p_cl, p_cv, p_mf, p_nc, p_mm, p_mkm, p_lk, p_mu, p_dl, p_rs, p_nx, cfC, lgPut, isOk, rv, rh, Bool.false_eq_true, d_nil, d_on, d_off, d_mv, d_pk, d_bn, d_un, d_be, d_nl, d_eqa, d_ci, d_cbs, d_csb, d_ex, d_bd, d_fd, d_ix, d_ixa, d_ss, d_sl, d_sla, d_ln, d_lns, d_lnm, d_al, d_bx, d_lal, d_lbx, d_ld, d_st, d_fa, d_ia, d_iaa, d_bs, d_lbs, d_mk, d_ap, d_cp, d_cl, d_cv, d_mf, d_nc, d_mm, d_mkm, d_lk, d_mu, d_dl, d_rs, d_nx, okO, vlO, mmO, dsO, putE, args, evT, evs, evO, look, kOps, kSeq, kBlk, keepE, reduceIte, Nat.reduceEqDiff, binC, binV, intC, intV, strC, strV, unC, unV, AV.isI, AV.isB, AV.isS, AV.toI, AV.toK, AV.toS, allOut, o_b, o_i, o_s, o_np, o_pv, o_pe, o_ns, o_sl, o_nm, o_mp, o_nf, o_fn, o_ag, q_b, q_i, q_s, q_np, q_pv, q_pe, q_ns, q_sl, q_nm, q_mp, q_nf, q_fn, q_ag, Bool.and_true, Bool.and_self, Bool.true_and, AV.b.injEq, decide_eq_true_eq, decide_eq_false_iff_not, true_and, and_true, and_self, reduceCtorEq, imp_self, implies_true, forall_const, eq_self, ex_tp, ex_ag, List.getD_cons_zero, List.getD_cons_succ, List.length_cons, List.length_nil, Nat.reduceAdd, Nat.reduceLT, Nat.zero_add, bne_self_eq_false, decide_true, decide_false, eq_self, true_implies, false_implies, forall_const, Bool.true_eq_false, Bool.not_true, Bool.not_false, not_true_eq_false, not_false_eq_true, if_true, if_false, pickV, cond_true, cond_false, boolV, fillEC, fillE, List.replicate, List.set, Mem.newL, Mem.keep, Int.reduceToNat, Nat.reduceSub, List.drop_zero, Int.reduceLE, Int.le_refl, Nat.sub_zero, Mem.newL, u1, u2, u3, u4, hA, hB, ha.out, hb.out, b1.sl.out, b2.sl.out, b4.sl.out, b5.sl.out, b9.sl.out, b11.sl.out, b21.sl.out, b22.sl.out, wr.own.sl.out, wb.sl.out, gr.own.sl.out, gb.sl.out, hr.own.sl.out, hrb.sl.out,
        a1, a2, a3, a4, a5, a6, a7, a8, a9, a10, a11, a12, a13, a14, a15, a16, a17, a18, a19, a20, a21, a22, a23, a24, a25, a26, a27, bb, c1, c2, c3, endK, rsC, rsV, resV]

end
end Go.Vm
