import Derived.Test.YtfamnghjibckbaaDoorRf8
import Derived.Test.YtfamnghjibckbaaDoorRf3
import Derived.Test.YtfamnghjibckbaaDoorProg
import Derived.KernelRfl
import Derived.Test.YtfamnghjibckbaaDoorRf4
import Derived.Test.YtfamnghjibckbaaDoorRf5
/- ReadEdns: the program's run. -/
namespace Go.Vm
set_option linter.unusedVariables false
set_option linter.unusedSimpArgs false
theorem rdE_bad1 {m : Msg} (h : m.an.filter isOpt ≠ [] ∨ m.au.filter isOpt ≠ []) : rdE m = (ed0, 32) := by
  rw [rdE, if_pos]
  refine .inl ?_
  rcases h with h | h
  · have := List.length_pos_iff.2 h; omega
  · have := List.length_pos_iff.2 h; omega
theorem rdE_bad2 {m : Msg} (h : (m.ex.filter isOpt).length > 1) : rdE m = (ed0, 32) := by rw [rdE, if_pos (.inr h)]
theorem rdE_bad3 {m : Msg} {r : Rr} {q : List Rr} (h : m.ex.filter isOpt = r :: q) (hr : r.o ≠ [0] ∨ opsD r.d = none) : rdE m = (ed0, 32) := by
  rw [rdE]
  split
  · rfl
  · rw [h]
    simp only
    rcases hr with hr | hr
    · cases opsD r.d with
      | none => rfl
      | some os => simp only [if_neg hr]
    · rw [hr]
theorem filt_none {xs : List Rr} {i : Nat} (hi : i < xs.length) (ht : xs[i].t = 41) : xs.filter isOpt ≠ [] := fun h => by
  have : xs[i] ∈ xs.filter isOpt := List.mem_filter.2 ⟨List.getElem_mem hi, by simp [isOpt, ht]⟩
  rw [h] at this
  cases this
theorem filt_two {xs : List Rr} {i : Nat} {r : Rr} (hi : i < xs.length) (h0 : (xs.take i).filter isOpt = [r]) (ht : xs[i].t = 41) : (xs.filter isOpt).length > 1 := by
  have : xs = xs.take i ++ xs[i] :: xs.drop (i + 1) := by
    rw [← List.drop_eq_getElem_cons hi, List.take_append_drop]
  rw [this, List.filter_append, h0, List.filter_cons, if_pos (by simp [isOpt, ht])]
  simp
section
variable {C : Tab}
set_option maxRecDepth 100000 in
theorem r_impl_ReadEdns {q a b c : AV} {m : Msg} {H : AH} (hU : T_u16 C n_impl_u16) (h : MsgS H q a b c m) (hs : szM m ≤ 1048576) :
    Runs C c_impl_ReadEdns [mV m.h q a b c] H (RePost (rdE m) H) := by
  unfold Runs c_impl_ReadEdns mV
  unfold szM at hs
  have o1 := h.hq.out
  have o2 := h.ha.out
  have o3 := h.hb.out
  have o4 := h.hc.out
  have z2 := h.ha.one
  have z3 := h.hb.one
  simp -implicitDefEqProofs only [x_q, x_o, x_b, x_k, x_x, x_r, x_it, x_if, x_p, p_nil, p_on, p_off, p_mv, p_pk, p_bn, p_un, p_be, p_nl, p_eqa, p_ci, p_cbs, p_csb, p_ex, p_bd, p_fd, p_ix, p_ixa, p_ss, p_sl, p_sla, p_ln, p_lns, p_lnm, p_al, p_bx, p_lal, p_lbx, p_ld, p_st, p_fa, p_ia, p_iaa, p_bs, p_lbs, p_mk, p_ap, p_cp, p_cl, p_cv, p_mf, p_nc, p_mm, p_mkm, p_lk, p_mu, p_dl, p_rs, p_nx, cfC, lgPut, isOk, rv, rh, Bool.false_eq_true, d_nil, d_on, d_off, d_mv, d_pk, d_bn, d_un, d_be, d_nl, d_eqa, d_ci, d_cbs, d_csb, d_ex, d_bd, d_fd, d_ix, d_ixa, d_ss, d_sl, d_sla, d_ln, d_lns, d_lnm, d_al, d_bx, d_lal, d_lbx, d_ld, d_st, d_fa, d_ia, d_iaa, d_bs, d_lbs, d_mk, d_ap, d_cp, d_cl, d_cv, d_mf, d_nc, d_mm, d_mkm, d_lk, d_mu, d_dl, d_rs, d_nx, okO, vlO, mmO, dsO, putE, args, evT, evs, evO, look, kOps, kSeq, kBlk, keepE, reduceIte, Nat.reduceEqDiff, binC, binV, intC, intV, strC, strV, unC, unV, AV.isI, AV.isB, AV.isS, AV.toI, AV.toK, AV.toS, allOut, o_b, o_i, o_s, o_np, o_pv, o_pe, o_ns, o_sl, o_nm, o_mp, o_nf, o_fn, o_ag, q_b, q_i, q_s, q_np, q_pv, q_pe, q_ns, q_sl, q_nm, q_mp, q_nf, q_fn, q_ag, Bool.and_true, Bool.and_self, Bool.true_and, AV.b.injEq, decide_eq_true_eq, decide_eq_false_iff_not, true_and, and_true, and_self, reduceCtorEq, imp_self, implies_true, forall_const, eq_self, ex_tp, ex_ag, List.getD_cons_zero, List.getD_cons_succ, List.length_cons, List.length_nil, Nat.reduceAdd, Nat.reduceLT, Nat.zero_add, bne_self_eq_false, decide_true, decide_false, eq_self, true_implies, false_implies, forall_const, Bool.true_eq_false, Bool.not_true, Bool.not_false, not_true_eq_false, not_false_eq_true, if_true, if_false, pickV, cond_true, cond_false, boolV, fillEC, fillE, List.replicate, List.set, Mem.newL, Mem.keep, Int.reduceToNat, Nat.reduceSub, List.drop_zero, Int.reduceLE, Int.le_refl, Nat.sub_zero, Mem.newL, Mem.newL, Mem.getL, Mem.hasL, lookL, setL, dropL, keepL, memN, la_faC, la_faV, la_ldC, la_ldX, la_stC, la_stM, partOf, partFits, setEl, setPart, Option.isSome_some, Option.getD_some, List.take_succ_cons, List.take_zero, List.drop_succ_cons, List.drop_zero, List.nil_append, List.cons_append, List.getD_cons_zero, List.getD_cons_succ, List.length_cons, List.length_nil, List.set_cons_zero, List.append_nil, List.drop_nil, List.take_nil, Nat.reduceAdd, Nat.reduceLT, Nat.reduceLeDiff, Nat.zero_add, Nat.add_zero, Nat.lt_add_one, Nat.le_refl, Nat.zero_le, Nat.zero_lt_succ, fillP, fillC, Nat.reduceLeDiff, lgAt, isRd, o1, o2, o3, o4, z2, z3, fillEC, fillE, List.replicate, List.set, lenV, lenC]
  refine exec_loop (fun n e M => ∃ (j : Nat) (L : List Lv) (g : Nat), j ≤ 2 ∧ n = 2 - j ∧ look e 1 = .la 1 0 0 0 ∧ look e 2 = .la 2 1 0 0 ∧ look e 17 = .ll 17 2 1 2 ∧ look e 18 = .i .i64 2 ∧ look e 19 = .i .i64 j ∧ M = ⟨L, g, H⟩ ∧
    keepL [1, 2, 17, 18, 19] L = [⟨17, 2, 0, [a, b]⟩, ⟨2, 1, 0, [.ag [.b false, .i .i64 0, .i .i64 0, .i .i64 0, .ns]]⟩, ⟨1, 0, 0, [mV m.h q a b c]⟩] ∧ (0 < j → m.an.filter isOpt = []) ∧ (1 < j → m.au.filter isOpt = [])) ?_ (n := 2)
    ⟨0, _, _, by omega, by omega, rfl, rfl, rfl, rfl, rfl, rfl, rfl, by omega, by omega⟩
  rintro n e M ⟨j, L, g, hj, rfl, q1, q2, q17, q18, q19, rfl, hL, hf1, hf2⟩
  unfold mV at hL
  by_cases hj2 : (j : Int) < 2
  · have hjn : j < 2 := by omega
    obtain ⟨ax, xs, hax, hget, hbad, hxl, hnx⟩ : ∃ ax xs, Sx H eR ax xs ∧ [a, b].getD j .u = ax ∧ (xs.filter isOpt ≠ [] → rdE m = (ed0, 32)) ∧ xs.length ≤ 1048576 ∧ (xs.filter isOpt = [] → (0 < j + 1 → m.an.filter isOpt = []) ∧ (1 < j + 1 → m.au.filter isOpt = [])) := by
      obtain rfl | rfl : j = 0 ∨ j = 1 := by omega
      · exact ⟨a, m.an, h.ha, rfl, fun hx => rdE_bad1 (.inl hx), by omega, fun hx => ⟨fun _ => hx, by omega⟩⟩
      · exact ⟨b, m.au, h.hb, rfl, fun hx => rdE_bad1 (.inr hx), by omega, fun hx => ⟨fun _ => hf1 (by omega), fun _ => hx⟩⟩
    obtain ⟨l1, l2⟩ := hax.len
    have j0 : (0 : Int) ≤ j := by omega
    have za := hax.one
    have hia : iaC (j : Int) (.ll 17 2 1 2) := ⟨j0, hj2⟩
    have w9 : IntKind.i64.wrap ((j : Int) + 1) = ((j + 1 : Nat) : Int) := by rw [w64 (by omega) (by omega)]; rfl
    simp -implicitDefEqProofs only [x_q, x_o, x_b, x_k, x_x, x_r, x_it, x_if, x_p, p_nil, p_on, p_off, p_mv, p_pk, p_bn, p_un, p_be, p_nl, p_eqa, p_ci, p_cbs, p_csb, p_ex, p_bd, p_fd, p_ix, p_ixa, p_ss, p_sl, p_sla, p_ln, p_lns, p_lnm, p_al, p_bx, p_lal, p_lbx, p_ld, p_st, p_fa, p_ia, p_iaa, p_bs, p_lbs, p_mk, p_ap, p_cp, p_cl, p_cv, p_mf, p_nc, p_mm, p_mkm, p_lk, p_mu, p_dl, p_rs, p_nx, cfC, lgPut, isOk, rv, rh, Bool.false_eq_true, d_nil, d_on, d_off, d_mv, d_pk, d_bn, d_un, d_be, d_nl, d_eqa, d_ci, d_cbs, d_csb, d_ex, d_bd, d_fd, d_ix, d_ixa, d_ss, d_sl, d_sla, d_ln, d_lns, d_lnm, d_al, d_bx, d_lal, d_lbx, d_ld, d_st, d_fa, d_ia, d_iaa, d_bs, d_lbs, d_mk, d_ap, d_cp, d_cl, d_cv, d_mf, d_nc, d_mm, d_mkm, d_lk, d_mu, d_dl, d_rs, d_nx, okO, vlO, mmO, dsO, putE, args, evT, evs, evO, look, kOps, kSeq, kBlk, keepE, reduceIte, Nat.reduceEqDiff, binC, binV, intC, intV, strC, strV, unC, unV, AV.isI, AV.isB, AV.isS, AV.toI, AV.toK, AV.toS, allOut, o_b, o_i, o_s, o_np, o_pv, o_pe, o_ns, o_sl, o_nm, o_mp, o_nf, o_fn, o_ag, q_b, q_i, q_s, q_np, q_pv, q_pe, q_ns, q_sl, q_nm, q_mp, q_nf, q_fn, q_ag, Bool.and_true, Bool.and_self, Bool.true_and, AV.b.injEq, decide_eq_true_eq, decide_eq_false_iff_not, true_and, and_true, and_self, reduceCtorEq, imp_self, implies_true, forall_const, eq_self, ex_tp, ex_ag, List.getD_cons_zero, List.getD_cons_succ, List.length_cons, List.length_nil, Nat.reduceAdd, Nat.reduceLT, Nat.zero_add, bne_self_eq_false, decide_true, decide_false, eq_self, true_implies, false_implies, forall_const, Bool.true_eq_false, Bool.not_true, Bool.not_false, not_true_eq_false, not_false_eq_true, if_true, if_false, pickV, cond_true, cond_false, boolV, fillEC, fillE, List.replicate, List.set, Mem.newL, Mem.keep, Int.reduceToNat, Nat.reduceSub, List.drop_zero, Int.reduceLE, Int.le_refl, Nat.sub_zero, Mem.newL, Mem.newL, Mem.getL, Mem.hasL, lookL, setL, dropL, keepL, memN, la_faC, la_faV, la_ldC, la_ldX, la_stC, la_stM, partOf, partFits, setEl, setPart, Option.isSome_some, Option.getD_some, List.take_succ_cons, List.take_zero, List.drop_succ_cons, List.drop_zero, List.nil_append, List.cons_append, List.getD_cons_zero, List.getD_cons_succ, List.length_cons, List.length_nil, List.set_cons_zero, List.append_nil, List.drop_nil, List.take_nil, Nat.reduceAdd, Nat.reduceLT, Nat.reduceLeDiff, Nat.zero_add, Nat.add_zero, Nat.lt_add_one, Nat.le_refl, Nat.zero_le, Nat.zero_lt_succ, fillP, fillC, Nat.reduceLeDiff, lgAt, isRd, q1, q2, q17, q18, q19, hj2, hL, slZ, hia, iaV, toNat_nat, hget, hjn, za, l1, l2]
    refine exec_loop (fun n e M => ∃ (i : Nat) (L : List Lv) (g : Nat), i ≤ xs.length ∧ n = xs.length - i ∧ look e 1 = .la 1 0 0 0 ∧ look e 2 = .la 2 1 0 0 ∧ look e 17 = .ll 17 2 1 2 ∧ look e 18 = .i .i64 2 ∧ look e 19 = .i .i64 j ∧ look e 23 = ax ∧ look e 24 = .i .i64 xs.length ∧ look e 25 = .i .i64 i ∧ M = ⟨L, g, H⟩ ∧
      keepL [1, 2, 17, 18, 19, 23, 24, 25] L = [⟨17, 2, 0, [a, b]⟩, ⟨2, 1, 0, [.ag [.b false, .i .i64 0, .i .i64 0, .i .i64 0, .ns]]⟩, ⟨1, 0, 0, [mV m.h q a b c]⟩] ∧ (xs.take i).filter isOpt = []) ?_ (n := xs.length)
      ⟨0, _, _, by omega, by omega, rfl, rfl, rfl, rfl, rfl, rfl, rfl, rfl, rfl, rfl, rfl⟩
    clear q1 q2 q17 q18 q19 hL
    rintro n e M ⟨i, L, g, hi, rfl, q1, q2, q17, q18, q19, q23, q24, q25, rfl, hL, hf⟩
    unfold mV at hL
    by_cases hlt : (i : Int) < xs.length
    · have hil : i < xs.length := by omega
      obtain ⟨b1, b2, b3, b4⟩ := Sx.at' hax hil
      simp only [show eR.z = 5 from rfl, show eR.v xs[i] = AV.ag [.s (xs[i]).o, .i .i64 (xs[i]).t, .i .i64 (xs[i]).c, .i .i64 (xs[i]).ttl, .s (xs[i]).d] from rfl] at b1 b3 b4
      have hsn := filt_snoc hil
      have w8 : IntKind.i64.wrap ((i : Int) + 1) = ((i + 1 : Nat) : Int) := by rw [w64 (by omega) (by omega)]; rfl
      by_cases ht : (xs[i]).t = 41
      · simp -implicitDefEqProofs only [x_q, x_o, x_b, x_k, x_x, x_r, x_it, x_if, x_p, p_nil, p_on, p_off, p_mv, p_pk, p_bn, p_un, p_be, p_nl, p_eqa, p_ci, p_cbs, p_csb, p_ex, p_bd, p_fd, p_ix, p_ixa, p_ss, p_sl, p_sla, p_ln, p_lns, p_lnm, p_al, p_bx, p_lal, p_lbx, p_ld, p_st, p_fa, p_ia, p_iaa, p_bs, p_lbs, p_mk, p_ap, p_cp, p_cl, p_cv, p_mf, p_nc, p_mm, p_mkm, p_lk, p_mu, p_dl, p_rs, p_nx, cfC, lgPut, isOk, rv, rh, Bool.false_eq_true, d_nil, d_on, d_off, d_mv, d_pk, d_bn, d_un, d_be, d_nl, d_eqa, d_ci, d_cbs, d_csb, d_ex, d_bd, d_fd, d_ix, d_ixa, d_ss, d_sl, d_sla, d_ln, d_lns, d_lnm, d_al, d_bx, d_lal, d_lbx, d_ld, d_st, d_fa, d_ia, d_iaa, d_bs, d_lbs, d_mk, d_ap, d_cp, d_cl, d_cv, d_mf, d_nc, d_mm, d_mkm, d_lk, d_mu, d_dl, d_rs, d_nx, okO, vlO, mmO, dsO, putE, args, evT, evs, evO, look, kOps, kSeq, kBlk, keepE, reduceIte, Nat.reduceEqDiff, binC, binV, intC, intV, strC, strV, unC, unV, AV.isI, AV.isB, AV.isS, AV.toI, AV.toK, AV.toS, allOut, o_b, o_i, o_s, o_np, o_pv, o_pe, o_ns, o_sl, o_nm, o_mp, o_nf, o_fn, o_ag, q_b, q_i, q_s, q_np, q_pv, q_pe, q_ns, q_sl, q_nm, q_mp, q_nf, q_fn, q_ag, Bool.and_true, Bool.and_self, Bool.true_and, AV.b.injEq, decide_eq_true_eq, decide_eq_false_iff_not, true_and, and_true, and_self, reduceCtorEq, imp_self, implies_true, forall_const, eq_self, ex_tp, ex_ag, List.getD_cons_zero, List.getD_cons_succ, List.length_cons, List.length_nil, Nat.reduceAdd, Nat.reduceLT, Nat.zero_add, bne_self_eq_false, decide_true, decide_false, eq_self, true_implies, false_implies, forall_const, Bool.true_eq_false, Bool.not_true, Bool.not_false, not_true_eq_false, not_false_eq_true, if_true, if_false, pickV, cond_true, cond_false, boolV, fillEC, fillE, List.replicate, List.set, Mem.newL, Mem.keep, Int.reduceToNat, Nat.reduceSub, List.drop_zero, Int.reduceLE, Int.le_refl, Nat.sub_zero, Mem.newL, Mem.newL, Mem.getL, Mem.hasL, lookL, setL, dropL, keepL, memN, la_faC, la_faV, la_ldC, la_ldX, la_stC, la_stM, partOf, partFits, setEl, setPart, Option.isSome_some, Option.getD_some, List.take_succ_cons, List.take_zero, List.drop_succ_cons, List.drop_zero, List.nil_append, List.cons_append, List.getD_cons_zero, List.getD_cons_succ, List.length_cons, List.length_nil, List.set_cons_zero, List.append_nil, List.drop_nil, List.take_nil, Nat.reduceAdd, Nat.reduceLT, Nat.reduceLeDiff, Nat.zero_add, Nat.add_zero, Nat.lt_add_one, Nat.le_refl, Nat.zero_le, Nat.zero_lt_succ, fillP, fillC, Nat.reduceLeDiff, lgAt, isRd, q1, q2, q17, q18, q19, q23, q24, q25, hlt, hL, b1, b2, b3, b4, toNat_nat, ht, endK, rsC, rsV, resV]
        rw [hbad (filt_none hil ht)]
        exact .bad (.refl _)
      · rw [if_neg ht, List.append_nil] at hsn
        simp -implicitDefEqProofs only [x_q, x_o, x_b, x_k, x_x, x_r, x_it, x_if, x_p, p_nil, p_on, p_off, p_mv, p_pk, p_bn, p_un, p_be, p_nl, p_eqa, p_ci, p_cbs, p_csb, p_ex, p_bd, p_fd, p_ix, p_ixa, p_ss, p_sl, p_sla, p_ln, p_lns, p_lnm, p_al, p_bx, p_lal, p_lbx, p_ld, p_st, p_fa, p_ia, p_iaa, p_bs, p_lbs, p_mk, p_ap, p_cp, p_cl, p_cv, p_mf, p_nc, p_mm, p_mkm, p_lk, p_mu, p_dl, p_rs, p_nx, cfC, lgPut, isOk, rv, rh, Bool.false_eq_true, d_nil, d_on, d_off, d_mv, d_pk, d_bn, d_un, d_be, d_nl, d_eqa, d_ci, d_cbs, d_csb, d_ex, d_bd, d_fd, d_ix, d_ixa, d_ss, d_sl, d_sla, d_ln, d_lns, d_lnm, d_al, d_bx, d_lal, d_lbx, d_ld, d_st, d_fa, d_ia, d_iaa, d_bs, d_lbs, d_mk, d_ap, d_cp, d_cl, d_cv, d_mf, d_nc, d_mm, d_mkm, d_lk, d_mu, d_dl, d_rs, d_nx, okO, vlO, mmO, dsO, putE, args, evT, evs, evO, look, kOps, kSeq, kBlk, keepE, reduceIte, Nat.reduceEqDiff, binC, binV, intC, intV, strC, strV, unC, unV, AV.isI, AV.isB, AV.isS, AV.toI, AV.toK, AV.toS, allOut, o_b, o_i, o_s, o_np, o_pv, o_pe, o_ns, o_sl, o_nm, o_mp, o_nf, o_fn, o_ag, q_b, q_i, q_s, q_np, q_pv, q_pe, q_ns, q_sl, q_nm, q_mp, q_nf, q_fn, q_ag, Bool.and_true, Bool.and_self, Bool.true_and, AV.b.injEq, decide_eq_true_eq, decide_eq_false_iff_not, true_and, and_true, and_self, reduceCtorEq, imp_self, implies_true, forall_const, eq_self, ex_tp, ex_ag, List.getD_cons_zero, List.getD_cons_succ, List.length_cons, List.length_nil, Nat.reduceAdd, Nat.reduceLT, Nat.zero_add, bne_self_eq_false, decide_true, decide_false, eq_self, true_implies, false_implies, forall_const, Bool.true_eq_false, Bool.not_true, Bool.not_false, not_true_eq_false, not_false_eq_true, if_true, if_false, pickV, cond_true, cond_false, boolV, fillEC, fillE, List.replicate, List.set, Mem.newL, Mem.keep, Int.reduceToNat, Nat.reduceSub, List.drop_zero, Int.reduceLE, Int.le_refl, Nat.sub_zero, Mem.newL, Mem.newL, Mem.getL, Mem.hasL, lookL, setL, dropL, keepL, memN, la_faC, la_faV, la_ldC, la_ldX, la_stC, la_stM, partOf, partFits, setEl, setPart, Option.isSome_some, Option.getD_some, List.take_succ_cons, List.take_zero, List.drop_succ_cons, List.drop_zero, List.nil_append, List.cons_append, List.getD_cons_zero, List.getD_cons_succ, List.length_cons, List.length_nil, List.set_cons_zero, List.append_nil, List.drop_nil, List.take_nil, Nat.reduceAdd, Nat.reduceLT, Nat.reduceLeDiff, Nat.zero_add, Nat.add_zero, Nat.lt_add_one, Nat.le_refl, Nat.zero_le, Nat.zero_lt_succ, fillP, fillC, Nat.reduceLeDiff, lgAt, isRd, q1, q2, q17, q18, q19, q23, q24, q25, hlt, hL, b1, b2, b3, b4, toNat_nat, ht, w8]
        exact ⟨xs.length - (i + 1), by omega, i + 1, _, _, by omega, rfl, rfl, rfl, rfl, hsn.trans hf⟩
    · have hil : i = xs.length := by omega
      rw [hil, List.take_length] at hf
      simp -implicitDefEqProofs only [x_q, x_o, x_b, x_k, x_x, x_r, x_it, x_if, x_p, p_nil, p_on, p_off, p_mv, p_pk, p_bn, p_un, p_be, p_nl, p_eqa, p_ci, p_cbs, p_csb, p_ex, p_bd, p_fd, p_ix, p_ixa, p_ss, p_sl, p_sla, p_ln, p_lns, p_lnm, p_al, p_bx, p_lal, p_lbx, p_ld, p_st, p_fa, p_ia, p_iaa, p_bs, p_lbs, p_mk, p_ap, p_cp, p_cl, p_cv, p_mf, p_nc, p_mm, p_mkm, p_lk, p_mu, p_dl, p_rs, p_nx, cfC, lgPut, isOk, rv, rh, Bool.false_eq_true, d_nil, d_on, d_off, d_mv, d_pk, d_bn, d_un, d_be, d_nl, d_eqa, d_ci, d_cbs, d_csb, d_ex, d_bd, d_fd, d_ix, d_ixa, d_ss, d_sl, d_sla, d_ln, d_lns, d_lnm, d_al, d_bx, d_lal, d_lbx, d_ld, d_st, d_fa, d_ia, d_iaa, d_bs, d_lbs, d_mk, d_ap, d_cp, d_cl, d_cv, d_mf, d_nc, d_mm, d_mkm, d_lk, d_mu, d_dl, d_rs, d_nx, okO, vlO, mmO, dsO, putE, args, evT, evs, evO, look, kOps, kSeq, kBlk, keepE, reduceIte, Nat.reduceEqDiff, binC, binV, intC, intV, strC, strV, unC, unV, AV.isI, AV.isB, AV.isS, AV.toI, AV.toK, AV.toS, allOut, o_b, o_i, o_s, o_np, o_pv, o_pe, o_ns, o_sl, o_nm, o_mp, o_nf, o_fn, o_ag, q_b, q_i, q_s, q_np, q_pv, q_pe, q_ns, q_sl, q_nm, q_mp, q_nf, q_fn, q_ag, Bool.and_true, Bool.and_self, Bool.true_and, AV.b.injEq, decide_eq_true_eq, decide_eq_false_iff_not, true_and, and_true, and_self, reduceCtorEq, imp_self, implies_true, forall_const, eq_self, ex_tp, ex_ag, List.getD_cons_zero, List.getD_cons_succ, List.length_cons, List.length_nil, Nat.reduceAdd, Nat.reduceLT, Nat.zero_add, bne_self_eq_false, decide_true, decide_false, eq_self, true_implies, false_implies, forall_const, Bool.true_eq_false, Bool.not_true, Bool.not_false, not_true_eq_false, not_false_eq_true, if_true, if_false, pickV, cond_true, cond_false, boolV, fillEC, fillE, List.replicate, List.set, Mem.newL, Mem.keep, Int.reduceToNat, Nat.reduceSub, List.drop_zero, Int.reduceLE, Int.le_refl, Nat.sub_zero, Mem.newL, Mem.newL, Mem.getL, Mem.hasL, lookL, setL, dropL, keepL, memN, la_faC, la_faV, la_ldC, la_ldX, la_stC, la_stM, partOf, partFits, setEl, setPart, Option.isSome_some, Option.getD_some, List.take_succ_cons, List.take_zero, List.drop_succ_cons, List.drop_zero, List.nil_append, List.cons_append, List.getD_cons_zero, List.getD_cons_succ, List.length_cons, List.length_nil, List.set_cons_zero, List.append_nil, List.drop_nil, List.take_nil, Nat.reduceAdd, Nat.reduceLT, Nat.reduceLeDiff, Nat.zero_add, Nat.add_zero, Nat.lt_add_one, Nat.le_refl, Nat.zero_le, Nat.zero_lt_succ, fillP, fillC, Nat.reduceLeDiff, lgAt, isRd, q1, q2, q17, q18, q19, q23, q24, q25, hlt, hL, w9]
      exact ⟨2 - (j + 1), by omega, j + 1, _, _, by omega, rfl, rfl, rfl, rfl, hnx hf⟩
  · have hjn : j = 2 := by omega
    have hg1 := hf1 (by omega)
    have hg2 := hf2 (by omega)
    obtain ⟨l1, l2⟩ := h.hc.len
    simp -implicitDefEqProofs only [x_q, x_o, x_b, x_k, x_x, x_r, x_it, x_if, x_p, p_nil, p_on, p_off, p_mv, p_pk, p_bn, p_un, p_be, p_nl, p_eqa, p_ci, p_cbs, p_csb, p_ex, p_bd, p_fd, p_ix, p_ixa, p_ss, p_sl, p_sla, p_ln, p_lns, p_lnm, p_al, p_bx, p_lal, p_lbx, p_ld, p_st, p_fa, p_ia, p_iaa, p_bs, p_lbs, p_mk, p_ap, p_cp, p_cl, p_cv, p_mf, p_nc, p_mm, p_mkm, p_lk, p_mu, p_dl, p_rs, p_nx, cfC, lgPut, isOk, rv, rh, Bool.false_eq_true, d_nil, d_on, d_off, d_mv, d_pk, d_bn, d_un, d_be, d_nl, d_eqa, d_ci, d_cbs, d_csb, d_ex, d_bd, d_fd, d_ix, d_ixa, d_ss, d_sl, d_sla, d_ln, d_lns, d_lnm, d_al, d_bx, d_lal, d_lbx, d_ld, d_st, d_fa, d_ia, d_iaa, d_bs, d_lbs, d_mk, d_ap, d_cp, d_cl, d_cv, d_mf, d_nc, d_mm, d_mkm, d_lk, d_mu, d_dl, d_rs, d_nx, okO, vlO, mmO, dsO, putE, args, evT, evs, evO, look, kOps, kSeq, kBlk, keepE, reduceIte, Nat.reduceEqDiff, binC, binV, intC, intV, strC, strV, unC, unV, AV.isI, AV.isB, AV.isS, AV.toI, AV.toK, AV.toS, allOut, o_b, o_i, o_s, o_np, o_pv, o_pe, o_ns, o_sl, o_nm, o_mp, o_nf, o_fn, o_ag, q_b, q_i, q_s, q_np, q_pv, q_pe, q_ns, q_sl, q_nm, q_mp, q_nf, q_fn, q_ag, Bool.and_true, Bool.and_self, Bool.true_and, AV.b.injEq, decide_eq_true_eq, decide_eq_false_iff_not, true_and, and_true, and_self, reduceCtorEq, imp_self, implies_true, forall_const, eq_self, ex_tp, ex_ag, List.getD_cons_zero, List.getD_cons_succ, List.length_cons, List.length_nil, Nat.reduceAdd, Nat.reduceLT, Nat.zero_add, bne_self_eq_false, decide_true, decide_false, eq_self, true_implies, false_implies, forall_const, Bool.true_eq_false, Bool.not_true, Bool.not_false, not_true_eq_false, not_false_eq_true, if_true, if_false, pickV, cond_true, cond_false, boolV, fillEC, fillE, List.replicate, List.set, Mem.newL, Mem.keep, Int.reduceToNat, Nat.reduceSub, List.drop_zero, Int.reduceLE, Int.le_refl, Nat.sub_zero, Mem.newL, Mem.newL, Mem.getL, Mem.hasL, lookL, setL, dropL, keepL, memN, la_faC, la_faV, la_ldC, la_ldX, la_stC, la_stM, partOf, partFits, setEl, setPart, Option.isSome_some, Option.getD_some, List.take_succ_cons, List.take_zero, List.drop_succ_cons, List.drop_zero, List.nil_append, List.cons_append, List.getD_cons_zero, List.getD_cons_succ, List.length_cons, List.length_nil, List.set_cons_zero, List.append_nil, List.drop_nil, List.take_nil, Nat.reduceAdd, Nat.reduceLT, Nat.reduceLeDiff, Nat.zero_add, Nat.add_zero, Nat.lt_add_one, Nat.le_refl, Nat.zero_le, Nat.zero_lt_succ, fillP, fillC, Nat.reduceLeDiff, lgAt, isRd, q1, q2, q17, q18, q19, hj2, hL, o4, l1, l2]
    refine exec_loop (fun n e M => ∃ (i g8 : Nat) (ed : Ed) (ao : AV) (H' : AH) (L : List Lv) (g : Nat), i ≤ m.ex.length ∧ n = m.ex.length - i ∧ look e 2 = .la 2 1 0 0 ∧ look e 8 = .la 8 g8 0 0 ∧ look e 36 = c ∧ look e 37 = .i .i64 m.ex.length ∧ look e 38 = .i .i64 i ∧ M = ⟨L, g, H'⟩ ∧
      keepL [2, 8, 36, 37, 38] L = [⟨8, g8, 0, [edV ed ao]⟩, ⟨2, 1, 0, [.ag [.b false, .i .i64 0, .i .i64 0, .i .i64 0, .ns]]⟩] ∧ Ext H H' ∧ Mx H' eO ao ed.os ∧ (∀ i, i ∈ idA ao → H.n ≤ i) ∧
      (((m.ex.take i).filter isOpt = [] ∧ ed = ed0) ∨ ∃ r, (m.ex.take i).filter isOpt = [r] ∧ r.o = [0] ∧ opsD r.d = some ed.os ∧ ed = edR r ed.os)) ?_ (n := m.ex.length)
      ⟨0, g, ed0, .ns, H, _, _, by omega, by omega, rfl, rfl, rfl, rfl, rfl, rfl, rfl, .refl _, .nil, by simp [idA], .inl ⟨rfl, rfl⟩⟩
    clear q1 q2 q17 q18 q19 hL
    rintro n e M ⟨i, g8, ed, ao, H', L, g, hi, rfl, q2, q8, q36, q37, q38, rfl, hL, he, hm, hid, hst⟩
    unfold edV at hL
    have ho := hm.sl.out
    have hone := hm.sl.one
    have hrd : ((m.ex.filter isOpt).length ≤ 1) → rdE m = (match m.ex.filter isOpt with
        | [] => (ed0, 0)
        | r :: _ => match opsD r.d with
          | none => (ed0, 32)
          | some os => if r.o = [0] then (edR r os, 0) else (ed0, 32)) := fun h1 => by
      rw [rdE, if_neg (by rw [hg1, hg2]; simp; omega)]; rfl
    by_cases hlt : (i : Int) < m.ex.length
    · have hil : i < m.ex.length := by omega
      obtain ⟨b1, b2, b3, b4⟩ := Sx.at' (Sl.ext h.hc he) hil
      simp only [show eR.z = 5 from rfl, show eR.v m.ex[i] = AV.ag [.s (m.ex[i]).o, .i .i64 (m.ex[i]).t, .i .i64 (m.ex[i]).c, .i .i64 (m.ex[i]).ttl, .s (m.ex[i]).d] from rfl] at b1 b3 b4
      have hsn := filt_snoc hil
      have w9 : IntKind.i64.wrap ((i : Int) + 1) = ((i + 1 : Nat) : Int) := by rw [w64 (by omega) (by omega)]; rfl
      have hmem : m.ex[i] ∈ m.ex := List.getElem_mem hil
      have hwd : (m.ex[i]).d.length ≤ 1048576 := by have := tot_mem' (w := w_RR) hmem; simp only [w_RR] at this; omega
      by_cases ht : (m.ex[i]).t = 41
      · rw [if_pos ht] at hsn
        by_cases hp : ed.p = true
        · have hbad : rdE m = (ed0, 32) := by
            rcases hst with ⟨-, rfl⟩ | ⟨r, h1, -⟩
            · cases hp
            · exact rdE_bad2 (filt_two hil h1 ht)
          simp -implicitDefEqProofs only [x_q, x_o, x_b, x_k, x_x, x_r, x_it, x_if, x_p, p_nil, p_on, p_off, p_mv, p_pk, p_bn, p_un, p_be, p_nl, p_eqa, p_ci, p_cbs, p_csb, p_ex, p_bd, p_fd, p_ix, p_ixa, p_ss, p_sl, p_sla, p_ln, p_lns, p_lnm, p_al, p_bx, p_lal, p_lbx, p_ld, p_st, p_fa, p_ia, p_iaa, p_bs, p_lbs, p_mk, p_ap, p_cp, p_cl, p_cv, p_mf, p_nc, p_mm, p_mkm, p_lk, p_mu, p_dl, p_rs, p_nx, cfC, lgPut, isOk, rv, rh, Bool.false_eq_true, d_nil, d_on, d_off, d_mv, d_pk, d_bn, d_un, d_be, d_nl, d_eqa, d_ci, d_cbs, d_csb, d_ex, d_bd, d_fd, d_ix, d_ixa, d_ss, d_sl, d_sla, d_ln, d_lns, d_lnm, d_al, d_bx, d_lal, d_lbx, d_ld, d_st, d_fa, d_ia, d_iaa, d_bs, d_lbs, d_mk, d_ap, d_cp, d_cl, d_cv, d_mf, d_nc, d_mm, d_mkm, d_lk, d_mu, d_dl, d_rs, d_nx, okO, vlO, mmO, dsO, putE, args, evT, evs, evO, look, kOps, kSeq, kBlk, keepE, reduceIte, Nat.reduceEqDiff, binC, binV, intC, intV, strC, strV, unC, unV, AV.isI, AV.isB, AV.isS, AV.toI, AV.toK, AV.toS, allOut, o_b, o_i, o_s, o_np, o_pv, o_pe, o_ns, o_sl, o_nm, o_mp, o_nf, o_fn, o_ag, q_b, q_i, q_s, q_np, q_pv, q_pe, q_ns, q_sl, q_nm, q_mp, q_nf, q_fn, q_ag, Bool.and_true, Bool.and_self, Bool.true_and, AV.b.injEq, decide_eq_true_eq, decide_eq_false_iff_not, true_and, and_true, and_self, reduceCtorEq, imp_self, implies_true, forall_const, eq_self, ex_tp, ex_ag, List.getD_cons_zero, List.getD_cons_succ, List.length_cons, List.length_nil, Nat.reduceAdd, Nat.reduceLT, Nat.zero_add, bne_self_eq_false, decide_true, decide_false, eq_self, true_implies, false_implies, forall_const, Bool.true_eq_false, Bool.not_true, Bool.not_false, not_true_eq_false, not_false_eq_true, if_true, if_false, pickV, cond_true, cond_false, boolV, fillEC, fillE, List.replicate, List.set, Mem.newL, Mem.keep, Int.reduceToNat, Nat.reduceSub, List.drop_zero, Int.reduceLE, Int.le_refl, Nat.sub_zero, Mem.newL, Mem.newL, Mem.getL, Mem.hasL, lookL, setL, dropL, keepL, memN, la_faC, la_faV, la_ldC, la_ldX, la_stC, la_stM, partOf, partFits, setEl, setPart, Option.isSome_some, Option.getD_some, List.take_succ_cons, List.take_zero, List.drop_succ_cons, List.drop_zero, List.nil_append, List.cons_append, List.getD_cons_zero, List.getD_cons_succ, List.length_cons, List.length_nil, List.set_cons_zero, List.append_nil, List.drop_nil, List.take_nil, Nat.reduceAdd, Nat.reduceLT, Nat.reduceLeDiff, Nat.zero_add, Nat.add_zero, Nat.lt_add_one, Nat.le_refl, Nat.zero_le, Nat.zero_lt_succ, fillP, fillC, Nat.reduceLeDiff, lgAt, isRd, q2, q8, q36, q37, q38, hlt, hL, b1, b2, b3, b4, toNat_nat, ht, hp, endK, rsC, rsV, resV]
          rw [hbad]
          exact .bad he
        · have hpf : ed.p = false := by simpa using hp
          have hf : (m.ex.take i).filter isOpt = [] := by
            rcases hst with ⟨h1, -⟩ | ⟨r, -, -, -, h2⟩
            · exact h1
            · rw [h2] at hpf; cases hpf
          have hfst := filt_first hil hf ht
          by_cases hroot : (m.ex[i]).o = [0]
          case neg =>
            simp -implicitDefEqProofs only [x_q, x_o, x_b, x_k, x_x, x_r, x_it, x_if, x_p, p_nil, p_on, p_off, p_mv, p_pk, p_bn, p_un, p_be, p_nl, p_eqa, p_ci, p_cbs, p_csb, p_ex, p_bd, p_fd, p_ix, p_ixa, p_ss, p_sl, p_sla, p_ln, p_lns, p_lnm, p_al, p_bx, p_lal, p_lbx, p_ld, p_st, p_fa, p_ia, p_iaa, p_bs, p_lbs, p_mk, p_ap, p_cp, p_cl, p_cv, p_mf, p_nc, p_mm, p_mkm, p_lk, p_mu, p_dl, p_rs, p_nx, cfC, lgPut, isOk, rv, rh, Bool.false_eq_true, d_nil, d_on, d_off, d_mv, d_pk, d_bn, d_un, d_be, d_nl, d_eqa, d_ci, d_cbs, d_csb, d_ex, d_bd, d_fd, d_ix, d_ixa, d_ss, d_sl, d_sla, d_ln, d_lns, d_lnm, d_al, d_bx, d_lal, d_lbx, d_ld, d_st, d_fa, d_ia, d_iaa, d_bs, d_lbs, d_mk, d_ap, d_cp, d_cl, d_cv, d_mf, d_nc, d_mm, d_mkm, d_lk, d_mu, d_dl, d_rs, d_nx, okO, vlO, mmO, dsO, putE, args, evT, evs, evO, look, kOps, kSeq, kBlk, keepE, reduceIte, Nat.reduceEqDiff, binC, binV, intC, intV, strC, strV, unC, unV, AV.isI, AV.isB, AV.isS, AV.toI, AV.toK, AV.toS, allOut, o_b, o_i, o_s, o_np, o_pv, o_pe, o_ns, o_sl, o_nm, o_mp, o_nf, o_fn, o_ag, q_b, q_i, q_s, q_np, q_pv, q_pe, q_ns, q_sl, q_nm, q_mp, q_nf, q_fn, q_ag, Bool.and_true, Bool.and_self, Bool.true_and, AV.b.injEq, decide_eq_true_eq, decide_eq_false_iff_not, true_and, and_true, and_self, reduceCtorEq, imp_self, implies_true, forall_const, eq_self, ex_tp, ex_ag, List.getD_cons_zero, List.getD_cons_succ, List.length_cons, List.length_nil, Nat.reduceAdd, Nat.reduceLT, Nat.zero_add, bne_self_eq_false, decide_true, decide_false, eq_self, true_implies, false_implies, forall_const, Bool.true_eq_false, Bool.not_true, Bool.not_false, not_true_eq_false, not_false_eq_true, if_true, if_false, pickV, cond_true, cond_false, boolV, fillEC, fillE, List.replicate, List.set, Mem.newL, Mem.keep, Int.reduceToNat, Nat.reduceSub, List.drop_zero, Int.reduceLE, Int.le_refl, Nat.sub_zero, Mem.newL, Mem.newL, Mem.getL, Mem.hasL, lookL, setL, dropL, keepL, memN, la_faC, la_faV, la_ldC, la_ldX, la_stC, la_stM, partOf, partFits, setEl, setPart, Option.isSome_some, Option.getD_some, List.take_succ_cons, List.take_zero, List.drop_succ_cons, List.drop_zero, List.nil_append, List.cons_append, List.getD_cons_zero, List.getD_cons_succ, List.length_cons, List.length_nil, List.set_cons_zero, List.append_nil, List.drop_nil, List.take_nil, Nat.reduceAdd, Nat.reduceLT, Nat.reduceLeDiff, Nat.zero_add, Nat.add_zero, Nat.lt_add_one, Nat.le_refl, Nat.zero_le, Nat.zero_lt_succ, fillP, fillC, Nat.reduceLeDiff, lgAt, isRd, q2, q8, q36, q37, q38, hlt, hL, b1, b2, b3, b4, toNat_nat, ht, hpf, hroot, endK, rsC, rsV, resV]
            rw [rdE_bad3 hfst (.inl hroot)]
            exact .bad he
          simp -implicitDefEqProofs only [x_q, x_o, x_b, x_k, x_x, x_r, x_it, x_if, x_p, p_nil, p_on, p_off, p_mv, p_pk, p_bn, p_un, p_be, p_nl, p_eqa, p_ci, p_cbs, p_csb, p_ex, p_bd, p_fd, p_ix, p_ixa, p_ss, p_sl, p_sla, p_ln, p_lns, p_lnm, p_al, p_bx, p_lal, p_lbx, p_ld, p_st, p_fa, p_ia, p_iaa, p_bs, p_lbs, p_mk, p_ap, p_cp, p_cl, p_cv, p_mf, p_nc, p_mm, p_mkm, p_lk, p_mu, p_dl, p_rs, p_nx, cfC, lgPut, isOk, rv, rh, Bool.false_eq_true, d_nil, d_on, d_off, d_mv, d_pk, d_bn, d_un, d_be, d_nl, d_eqa, d_ci, d_cbs, d_csb, d_ex, d_bd, d_fd, d_ix, d_ixa, d_ss, d_sl, d_sla, d_ln, d_lns, d_lnm, d_al, d_bx, d_lal, d_lbx, d_ld, d_st, d_fa, d_ia, d_iaa, d_bs, d_lbs, d_mk, d_ap, d_cp, d_cl, d_cv, d_mf, d_nc, d_mm, d_mkm, d_lk, d_mu, d_dl, d_rs, d_nx, okO, vlO, mmO, dsO, putE, args, evT, evs, evO, look, kOps, kSeq, kBlk, keepE, reduceIte, Nat.reduceEqDiff, binC, binV, intC, intV, strC, strV, unC, unV, AV.isI, AV.isB, AV.isS, AV.toI, AV.toK, AV.toS, allOut, o_b, o_i, o_s, o_np, o_pv, o_pe, o_ns, o_sl, o_nm, o_mp, o_nf, o_fn, o_ag, q_b, q_i, q_s, q_np, q_pv, q_pe, q_ns, q_sl, q_nm, q_mp, q_nf, q_fn, q_ag, Bool.and_true, Bool.and_self, Bool.true_and, AV.b.injEq, decide_eq_true_eq, decide_eq_false_iff_not, true_and, and_true, and_self, reduceCtorEq, imp_self, implies_true, forall_const, eq_self, ex_tp, ex_ag, List.getD_cons_zero, List.getD_cons_succ, List.length_cons, List.length_nil, Nat.reduceAdd, Nat.reduceLT, Nat.zero_add, bne_self_eq_false, decide_true, decide_false, eq_self, true_implies, false_implies, forall_const, Bool.true_eq_false, Bool.not_true, Bool.not_false, not_true_eq_false, not_false_eq_true, if_true, if_false, pickV, cond_true, cond_false, boolV, fillEC, fillE, List.replicate, List.set, Mem.newL, Mem.keep, Int.reduceToNat, Nat.reduceSub, List.drop_zero, Int.reduceLE, Int.le_refl, Nat.sub_zero, Mem.newL, Mem.newL, Mem.getL, Mem.hasL, lookL, setL, dropL, keepL, memN, la_faC, la_faV, la_ldC, la_ldX, la_stC, la_stM, partOf, partFits, setEl, setPart, Option.isSome_some, Option.getD_some, List.take_succ_cons, List.take_zero, List.drop_succ_cons, List.drop_zero, List.nil_append, List.cons_append, List.getD_cons_zero, List.getD_cons_succ, List.length_cons, List.length_nil, List.set_cons_zero, List.append_nil, List.drop_nil, List.take_nil, Nat.reduceAdd, Nat.reduceLT, Nat.reduceLeDiff, Nat.zero_add, Nat.add_zero, Nat.lt_add_one, Nat.le_refl, Nat.zero_le, Nat.zero_lt_succ, fillP, fillC, Nat.reduceLeDiff, lgAt, isRd, q2, q8, q36, q37, q38, hlt, hL, b1, b2, b3, b4, toNat_nat, ht, hpf, hroot, ho, hone]
          refine exec_loop (fun n e M => ∃ (s : List UInt8) (os : List Opt) (ao : AV) (H' : AH) (L : List Lv) (g : Nat), n = s.length ∧ look e 2 = .la 2 1 0 0 ∧ look e 8 = .la 8 g8 0 0 ∧ look e 11 = .s s ∧ look e 36 = c ∧ look e 37 = .i .i64 m.ex.length ∧ look e 38 = .i .i64 i ∧ M = ⟨L, g, H'⟩ ∧
            keepL [2, 8, 11, 36, 37, 38] L = [⟨8, g8, 0, [edV (edR m.ex[i] os) ao]⟩, ⟨2, 1, 0, [.ag [.b false, .i .i64 0, .i .i64 0, .i .i64 0, .ns]]⟩] ∧ Ext H H' ∧ Mx H' eO ao os ∧ (∀ i, i ∈ idA ao → H.n ≤ i) ∧
            os.length + s.length ≤ (m.ex[i]).d.length ∧ opsD (m.ex[i]).d = (opsD s).map fun q => os ++ q) ?_ (n := (m.ex[i]).d.length)
            ⟨(m.ex[i]).d, [], .ns, H', _, _, rfl, rfl, rfl, rfl, rfl, rfl, rfl, rfl, rfl, he, .nil, by simp [idA], by simp, by simp⟩
          clear q2 q8 q36 q37 q38 hL ho hone hm hid b1 b2 b3 b4 he
          rintro n e M ⟨s, os, ao, H', L, g, rfl, q2, q8, q11, q36, q37, q38, rfl, hL, he, hm, hid, hl, hop⟩
          unfold edV at hL
          have ho := hm.sl.out
          have hone := hm.sl.one
          simp only [edR] at hL
          by_cases hs : s = []
          · subst hs
            rw [opsD_nil] at hop
            simp only [Option.map_some, List.append_nil] at hop
            simp -implicitDefEqProofs only [x_q, x_o, x_b, x_k, x_x, x_r, x_it, x_if, x_p, p_nil, p_on, p_off, p_mv, p_pk, p_bn, p_un, p_be, p_nl, p_eqa, p_ci, p_cbs, p_csb, p_ex, p_bd, p_fd, p_ix, p_ixa, p_ss, p_sl, p_sla, p_ln, p_lns, p_lnm, p_al, p_bx, p_lal, p_lbx, p_ld, p_st, p_fa, p_ia, p_iaa, p_bs, p_lbs, p_mk, p_ap, p_cp, p_cl, p_cv, p_mf, p_nc, p_mm, p_mkm, p_lk, p_mu, p_dl, p_rs, p_nx, cfC, lgPut, isOk, rv, rh, Bool.false_eq_true, d_nil, d_on, d_off, d_mv, d_pk, d_bn, d_un, d_be, d_nl, d_eqa, d_ci, d_cbs, d_csb, d_ex, d_bd, d_fd, d_ix, d_ixa, d_ss, d_sl, d_sla, d_ln, d_lns, d_lnm, d_al, d_bx, d_lal, d_lbx, d_ld, d_st, d_fa, d_ia, d_iaa, d_bs, d_lbs, d_mk, d_ap, d_cp, d_cl, d_cv, d_mf, d_nc, d_mm, d_mkm, d_lk, d_mu, d_dl, d_rs, d_nx, okO, vlO, mmO, dsO, putE, args, evT, evs, evO, look, kOps, kSeq, kBlk, keepE, reduceIte, Nat.reduceEqDiff, binC, binV, intC, intV, strC, strV, unC, unV, AV.isI, AV.isB, AV.isS, AV.toI, AV.toK, AV.toS, allOut, o_b, o_i, o_s, o_np, o_pv, o_pe, o_ns, o_sl, o_nm, o_mp, o_nf, o_fn, o_ag, q_b, q_i, q_s, q_np, q_pv, q_pe, q_ns, q_sl, q_nm, q_mp, q_nf, q_fn, q_ag, Bool.and_true, Bool.and_self, Bool.true_and, AV.b.injEq, decide_eq_true_eq, decide_eq_false_iff_not, true_and, and_true, and_self, reduceCtorEq, imp_self, implies_true, forall_const, eq_self, ex_tp, ex_ag, List.getD_cons_zero, List.getD_cons_succ, List.length_cons, List.length_nil, Nat.reduceAdd, Nat.reduceLT, Nat.zero_add, bne_self_eq_false, decide_true, decide_false, eq_self, true_implies, false_implies, forall_const, Bool.true_eq_false, Bool.not_true, Bool.not_false, not_true_eq_false, not_false_eq_true, if_true, if_false, pickV, cond_true, cond_false, boolV, fillEC, fillE, List.replicate, List.set, Mem.newL, Mem.keep, Int.reduceToNat, Nat.reduceSub, List.drop_zero, Int.reduceLE, Int.le_refl, Nat.sub_zero, Mem.newL, Mem.newL, Mem.getL, Mem.hasL, lookL, setL, dropL, keepL, memN, la_faC, la_faV, la_ldC, la_ldX, la_stC, la_stM, partOf, partFits, setEl, setPart, Option.isSome_some, Option.getD_some, List.take_succ_cons, List.take_zero, List.drop_succ_cons, List.drop_zero, List.nil_append, List.cons_append, List.getD_cons_zero, List.getD_cons_succ, List.length_cons, List.length_nil, List.set_cons_zero, List.append_nil, List.drop_nil, List.take_nil, Nat.reduceAdd, Nat.reduceLT, Nat.reduceLeDiff, Nat.zero_add, Nat.add_zero, Nat.lt_add_one, Nat.le_refl, Nat.zero_le, Nat.zero_lt_succ, fillP, fillC, Nat.reduceLeDiff, lgAt, isRd, q2, q8, q11, q36, q37, q38, hL, ho, hone, w9]
            exact ⟨m.ex.length - (i + 1), by omega, i + 1, g8, edR m.ex[i] os, ao, H', _, _, by omega, rfl, rfl, rfl, rfl, rfl, he, hm, hid, .inr ⟨m.ex[i], by rw [hsn, hf]; rfl, hroot, hop, rfl⟩⟩
          have hs0 : 0 < s.length := List.length_pos_iff.2 hs
          by_cases h4 : (s.length : Int) < 4
          · rw [opsD_bad hs (by omega)] at hop
            simp only [Option.map_none] at hop
            simp -implicitDefEqProofs only [x_q, x_o, x_b, x_k, x_x, x_r, x_it, x_if, x_p, p_nil, p_on, p_off, p_mv, p_pk, p_bn, p_un, p_be, p_nl, p_eqa, p_ci, p_cbs, p_csb, p_ex, p_bd, p_fd, p_ix, p_ixa, p_ss, p_sl, p_sla, p_ln, p_lns, p_lnm, p_al, p_bx, p_lal, p_lbx, p_ld, p_st, p_fa, p_ia, p_iaa, p_bs, p_lbs, p_mk, p_ap, p_cp, p_cl, p_cv, p_mf, p_nc, p_mm, p_mkm, p_lk, p_mu, p_dl, p_rs, p_nx, cfC, lgPut, isOk, rv, rh, Bool.false_eq_true, d_nil, d_on, d_off, d_mv, d_pk, d_bn, d_un, d_be, d_nl, d_eqa, d_ci, d_cbs, d_csb, d_ex, d_bd, d_fd, d_ix, d_ixa, d_ss, d_sl, d_sla, d_ln, d_lns, d_lnm, d_al, d_bx, d_lal, d_lbx, d_ld, d_st, d_fa, d_ia, d_iaa, d_bs, d_lbs, d_mk, d_ap, d_cp, d_cl, d_cv, d_mf, d_nc, d_mm, d_mkm, d_lk, d_mu, d_dl, d_rs, d_nx, okO, vlO, mmO, dsO, putE, args, evT, evs, evO, look, kOps, kSeq, kBlk, keepE, reduceIte, Nat.reduceEqDiff, binC, binV, intC, intV, strC, strV, unC, unV, AV.isI, AV.isB, AV.isS, AV.toI, AV.toK, AV.toS, allOut, o_b, o_i, o_s, o_np, o_pv, o_pe, o_ns, o_sl, o_nm, o_mp, o_nf, o_fn, o_ag, q_b, q_i, q_s, q_np, q_pv, q_pe, q_ns, q_sl, q_nm, q_mp, q_nf, q_fn, q_ag, Bool.and_true, Bool.and_self, Bool.true_and, AV.b.injEq, decide_eq_true_eq, decide_eq_false_iff_not, true_and, and_true, and_self, reduceCtorEq, imp_self, implies_true, forall_const, eq_self, ex_tp, ex_ag, List.getD_cons_zero, List.getD_cons_succ, List.length_cons, List.length_nil, Nat.reduceAdd, Nat.reduceLT, Nat.zero_add, bne_self_eq_false, decide_true, decide_false, eq_self, true_implies, false_implies, forall_const, Bool.true_eq_false, Bool.not_true, Bool.not_false, not_true_eq_false, not_false_eq_true, if_true, if_false, pickV, cond_true, cond_false, boolV, fillEC, fillE, List.replicate, List.set, Mem.newL, Mem.keep, Int.reduceToNat, Nat.reduceSub, List.drop_zero, Int.reduceLE, Int.le_refl, Nat.sub_zero, Mem.newL, Mem.newL, Mem.getL, Mem.hasL, lookL, setL, dropL, keepL, memN, la_faC, la_faV, la_ldC, la_ldX, la_stC, la_stM, partOf, partFits, setEl, setPart, Option.isSome_some, Option.getD_some, List.take_succ_cons, List.take_zero, List.drop_succ_cons, List.drop_zero, List.nil_append, List.cons_append, List.getD_cons_zero, List.getD_cons_succ, List.length_cons, List.length_nil, List.set_cons_zero, List.append_nil, List.drop_nil, List.take_nil, Nat.reduceAdd, Nat.reduceLT, Nat.reduceLeDiff, Nat.zero_add, Nat.add_zero, Nat.lt_add_one, Nat.le_refl, Nat.zero_le, Nat.zero_lt_succ, fillP, fillC, Nat.reduceLeDiff, lgAt, isRd, q2, q8, q11, q36, q37, q38, hL, hs, h4, endK, rsC, rsV, resV]
            rw [rdE_bad3 hfst (.inr hop)]
            exact .bad he
          have e2 : (s.drop 2).take (s.length - 2) = s.drop 2 := List.take_of_length_le (by simp)
          have c1 := hU (s.drop 2) H' (by simp; omega)
          have c2 := hU s H' (by omega)
          have hlt2 := num2_lt (s.drop 2)
          have r2 : (2 : Int) ≤ s.length := by omega
          generalize hn : num ((s.drop 2).take 2) 0 = k at *
          have w4 : IntKind.i64.wrap (4 + (k : Int)) = ((4 + k : Nat) : Int) := by rw [w64 (by omega) (by omega)]; omega
          by_cases hb : (s.length : Int) < ((4 + k : Nat) : Int)
          · rw [opsD_bad hs (by omega)] at hop
            simp only [Option.map_none] at hop
            simp -implicitDefEqProofs only [x_q, x_o, x_b, x_k, x_x, x_r, x_it, x_if, x_p, p_nil, p_on, p_off, p_mv, p_pk, p_bn, p_un, p_be, p_nl, p_eqa, p_ci, p_cbs, p_csb, p_ex, p_bd, p_fd, p_ix, p_ixa, p_ss, p_sl, p_sla, p_ln, p_lns, p_lnm, p_al, p_bx, p_lal, p_lbx, p_ld, p_st, p_fa, p_ia, p_iaa, p_bs, p_lbs, p_mk, p_ap, p_cp, p_cl, p_cv, p_mf, p_nc, p_mm, p_mkm, p_lk, p_mu, p_dl, p_rs, p_nx, cfC, lgPut, isOk, rv, rh, Bool.false_eq_true, d_nil, d_on, d_off, d_mv, d_pk, d_bn, d_un, d_be, d_nl, d_eqa, d_ci, d_cbs, d_csb, d_ex, d_bd, d_fd, d_ix, d_ixa, d_ss, d_sl, d_sla, d_ln, d_lns, d_lnm, d_al, d_bx, d_lal, d_lbx, d_ld, d_st, d_fa, d_ia, d_iaa, d_bs, d_lbs, d_mk, d_ap, d_cp, d_cl, d_cv, d_mf, d_nc, d_mm, d_mkm, d_lk, d_mu, d_dl, d_rs, d_nx, okO, vlO, mmO, dsO, putE, args, evT, evs, evO, look, kOps, kSeq, kBlk, keepE, reduceIte, Nat.reduceEqDiff, binC, binV, intC, intV, strC, strV, unC, unV, AV.isI, AV.isB, AV.isS, AV.toI, AV.toK, AV.toS, allOut, o_b, o_i, o_s, o_np, o_pv, o_pe, o_ns, o_sl, o_nm, o_mp, o_nf, o_fn, o_ag, q_b, q_i, q_s, q_np, q_pv, q_pe, q_ns, q_sl, q_nm, q_mp, q_nf, q_fn, q_ag, Bool.and_true, Bool.and_self, Bool.true_and, AV.b.injEq, decide_eq_true_eq, decide_eq_false_iff_not, true_and, and_true, and_self, reduceCtorEq, imp_self, implies_true, forall_const, eq_self, ex_tp, ex_ag, List.getD_cons_zero, List.getD_cons_succ, List.length_cons, List.length_nil, Nat.reduceAdd, Nat.reduceLT, Nat.zero_add, bne_self_eq_false, decide_true, decide_false, eq_self, true_implies, false_implies, forall_const, Bool.true_eq_false, Bool.not_true, Bool.not_false, not_true_eq_false, not_false_eq_true, if_true, if_false, pickV, cond_true, cond_false, boolV, fillEC, fillE, List.replicate, List.set, Mem.newL, Mem.keep, Int.reduceToNat, Nat.reduceSub, List.drop_zero, Int.reduceLE, Int.le_refl, Nat.sub_zero, Mem.newL, Mem.newL, Mem.getL, Mem.hasL, lookL, setL, dropL, keepL, memN, la_faC, la_faV, la_ldC, la_ldX, la_stC, la_stM, partOf, partFits, setEl, setPart, Option.isSome_some, Option.getD_some, List.take_succ_cons, List.take_zero, List.drop_succ_cons, List.drop_zero, List.nil_append, List.cons_append, List.getD_cons_zero, List.getD_cons_succ, List.length_cons, List.length_nil, List.set_cons_zero, List.append_nil, List.drop_nil, List.take_nil, Nat.reduceAdd, Nat.reduceLT, Nat.reduceLeDiff, Nat.zero_add, Nat.add_zero, Nat.lt_add_one, Nat.le_refl, Nat.zero_le, Nat.zero_lt_succ, fillP, fillC, Nat.reduceLeDiff, lgAt, isRd, q2, q8, q11, q36, q37, q38, hL, hs, h4, r2, e2, c1, w4, hb, Int.reduceToNat, Int.reduceLE, Int.le_refl, toNat_nat, endK, rsC, rsV, resV]
            rw [rdE_bad3 hfst (.inr hop)]
            exact .bad he
          have hop' := opsD_ok hs (by omega)
          rw [hop', Option.map_map, hn] at hop
          have r5 : (4 : Int) ≤ ((4 + k : Nat) : Int) := by omega
          have r6 : ((4 + k : Nat) : Int) ≤ s.length := by omega
          have r7 : (0 : Int) ≤ ((4 + k : Nat) : Int) := by omega
          have r8 : 4 + k - 4 = k := by omega
          have e1 : opt1 s = (((num (s.take 2) 0 : Nat) : Int), (s.drop 4).take k) := by rw [opt1, hn]
          have e3 : (s.drop (4 + k)).take (s.length - (4 + k)) = s.drop (4 + k) := List.take_of_length_le (by simp)
          obtain ⟨p1, o', H2, p2, p3, p4, p5, p6, p7, -⟩ := Mn.ap (z := 2) (by' := 24) hm (lit_srcE (t := 88) (g := g) (x := opt1 s) (L := [⟨8, g8, 0, [edV (edR m.ex[i] os) ao]⟩, ⟨2, 1, 0, [.ag [.b false, .i .i64 0, .i .i64 0, .i .i64 0, .ns]]⟩]) (H := H')) (by simp; omega)
          simp only [e1, edV, edR] at p1 p2 p3
          simp -implicitDefEqProofs only [x_q, x_o, x_b, x_k, x_x, x_r, x_it, x_if, x_p, p_nil, p_on, p_off, p_mv, p_pk, p_bn, p_un, p_be, p_nl, p_eqa, p_ci, p_cbs, p_csb, p_ex, p_bd, p_fd, p_ix, p_ixa, p_ss, p_sl, p_sla, p_ln, p_lns, p_lnm, p_al, p_bx, p_lal, p_lbx, p_ld, p_st, p_fa, p_ia, p_iaa, p_bs, p_lbs, p_mk, p_ap, p_cp, p_cl, p_cv, p_mf, p_nc, p_mm, p_mkm, p_lk, p_mu, p_dl, p_rs, p_nx, cfC, lgPut, isOk, rv, rh, Bool.false_eq_true, d_nil, d_on, d_off, d_mv, d_pk, d_bn, d_un, d_be, d_nl, d_eqa, d_ci, d_cbs, d_csb, d_ex, d_bd, d_fd, d_ix, d_ixa, d_ss, d_sl, d_sla, d_ln, d_lns, d_lnm, d_al, d_bx, d_lal, d_lbx, d_ld, d_st, d_fa, d_ia, d_iaa, d_bs, d_lbs, d_mk, d_ap, d_cp, d_cl, d_cv, d_mf, d_nc, d_mm, d_mkm, d_lk, d_mu, d_dl, d_rs, d_nx, okO, vlO, mmO, dsO, putE, args, evT, evs, evO, look, kOps, kSeq, kBlk, keepE, reduceIte, Nat.reduceEqDiff, binC, binV, intC, intV, strC, strV, unC, unV, AV.isI, AV.isB, AV.isS, AV.toI, AV.toK, AV.toS, allOut, o_b, o_i, o_s, o_np, o_pv, o_pe, o_ns, o_sl, o_nm, o_mp, o_nf, o_fn, o_ag, q_b, q_i, q_s, q_np, q_pv, q_pe, q_ns, q_sl, q_nm, q_mp, q_nf, q_fn, q_ag, Bool.and_true, Bool.and_self, Bool.true_and, AV.b.injEq, decide_eq_true_eq, decide_eq_false_iff_not, true_and, and_true, and_self, reduceCtorEq, imp_self, implies_true, forall_const, eq_self, ex_tp, ex_ag, List.getD_cons_zero, List.getD_cons_succ, List.length_cons, List.length_nil, Nat.reduceAdd, Nat.reduceLT, Nat.zero_add, bne_self_eq_false, decide_true, decide_false, eq_self, true_implies, false_implies, forall_const, Bool.true_eq_false, Bool.not_true, Bool.not_false, not_true_eq_false, not_false_eq_true, if_true, if_false, pickV, cond_true, cond_false, boolV, fillEC, fillE, List.replicate, List.set, Mem.newL, Mem.keep, Int.reduceToNat, Nat.reduceSub, List.drop_zero, Int.reduceLE, Int.le_refl, Nat.sub_zero, Mem.newL, Mem.newL, Mem.getL, Mem.hasL, lookL, setL, dropL, keepL, memN, la_faC, la_faV, la_ldC, la_ldX, la_stC, la_stM, partOf, partFits, setEl, setPart, Option.isSome_some, Option.getD_some, List.take_succ_cons, List.take_zero, List.drop_succ_cons, List.drop_zero, List.nil_append, List.cons_append, List.getD_cons_zero, List.getD_cons_succ, List.length_cons, List.length_nil, List.set_cons_zero, List.append_nil, List.drop_nil, List.take_nil, Nat.reduceAdd, Nat.reduceLT, Nat.reduceLeDiff, Nat.zero_add, Nat.add_zero, Nat.lt_add_one, Nat.le_refl, Nat.zero_le, Nat.zero_lt_succ, fillP, fillC, Nat.reduceLeDiff, lgAt, isRd, q2, q8, q11, q36, q37, q38, hL, hs, h4, r2, r5, r6, r7, r8, e2, e3, c1, c2, w4, hb, Int.reduceToNat, Int.reduceLE, Int.le_refl, toNat_nat, fillEC, fillE, List.replicate, List.set, ho, hone]
          have oo := (Mn.sl p4).out
          have oz := (Mn.sl p4).one
          simp -implicitDefEqProofs only [x_q, x_o, x_b, x_k, x_x, x_r, x_it, x_if, x_p, p_nil, p_on, p_off, p_mv, p_pk, p_bn, p_un, p_be, p_nl, p_eqa, p_ci, p_cbs, p_csb, p_ex, p_bd, p_fd, p_ix, p_ixa, p_ss, p_sl, p_sla, p_ln, p_lns, p_lnm, p_al, p_bx, p_lal, p_lbx, p_ld, p_st, p_fa, p_ia, p_iaa, p_bs, p_lbs, p_mk, p_ap, p_cp, p_cl, p_cv, p_mf, p_nc, p_mm, p_mkm, p_lk, p_mu, p_dl, p_rs, p_nx, cfC, lgPut, isOk, rv, rh, Bool.false_eq_true, d_nil, d_on, d_off, d_mv, d_pk, d_bn, d_un, d_be, d_nl, d_eqa, d_ci, d_cbs, d_csb, d_ex, d_bd, d_fd, d_ix, d_ixa, d_ss, d_sl, d_sla, d_ln, d_lns, d_lnm, d_al, d_bx, d_lal, d_lbx, d_ld, d_st, d_fa, d_ia, d_iaa, d_bs, d_lbs, d_mk, d_ap, d_cp, d_cl, d_cv, d_mf, d_nc, d_mm, d_mkm, d_lk, d_mu, d_dl, d_rs, d_nx, okO, vlO, mmO, dsO, putE, args, evT, evs, evO, look, kOps, kSeq, kBlk, keepE, reduceIte, Nat.reduceEqDiff, binC, binV, intC, intV, strC, strV, unC, unV, AV.isI, AV.isB, AV.isS, AV.toI, AV.toK, AV.toS, allOut, o_b, o_i, o_s, o_np, o_pv, o_pe, o_ns, o_sl, o_nm, o_mp, o_nf, o_fn, o_ag, q_b, q_i, q_s, q_np, q_pv, q_pe, q_ns, q_sl, q_nm, q_mp, q_nf, q_fn, q_ag, Bool.and_true, Bool.and_self, Bool.true_and, AV.b.injEq, decide_eq_true_eq, decide_eq_false_iff_not, true_and, and_true, and_self, reduceCtorEq, imp_self, implies_true, forall_const, eq_self, ex_tp, ex_ag, List.getD_cons_zero, List.getD_cons_succ, List.length_cons, List.length_nil, Nat.reduceAdd, Nat.reduceLT, Nat.zero_add, bne_self_eq_false, decide_true, decide_false, eq_self, true_implies, false_implies, forall_const, Bool.true_eq_false, Bool.not_true, Bool.not_false, not_true_eq_false, not_false_eq_true, if_true, if_false, pickV, cond_true, cond_false, boolV, fillEC, fillE, List.replicate, List.set, Mem.newL, Mem.keep, Int.reduceToNat, Nat.reduceSub, List.drop_zero, Int.reduceLE, Int.le_refl, Nat.sub_zero, Mem.newL, Mem.newL, Mem.getL, Mem.hasL, lookL, setL, dropL, keepL, memN, la_faC, la_faV, la_ldC, la_ldX, la_stC, la_stM, partOf, partFits, setEl, setPart, Option.isSome_some, Option.getD_some, List.take_succ_cons, List.take_zero, List.drop_succ_cons, List.drop_zero, List.nil_append, List.cons_append, List.getD_cons_zero, List.getD_cons_succ, List.length_cons, List.length_nil, List.set_cons_zero, List.append_nil, List.drop_nil, List.take_nil, Nat.reduceAdd, Nat.reduceLT, Nat.reduceLeDiff, Nat.zero_add, Nat.add_zero, Nat.lt_add_one, Nat.le_refl, Nat.zero_le, Nat.zero_lt_succ, fillP, fillC, Nat.reduceLeDiff, lgAt, isRd, p1, p2, p3, oo, oz, e3]
          refine ⟨(s.drop (4 + k)).length, by simp; omega, s.drop (4 + k), os ++ [opt1 s], o', H2, _, _, rfl, rfl, rfl, rfl, he.put hid p5 p6, ?_, fun j hj => ?_, by simp; omega, ?_⟩
          · have : Mn H2 2 o' (os.map eO.v ++ [eO.v (opt1 s)]) := p4
            unfold Mx
            rw [List.map_append]
            exact this
          · rcases p7 j hj with h | h
            · exact hid j h
            · have := he.n; omega
          · rw [hop]
            cases opsD (s.drop (4 + k)) <;> simp
      · rw [if_neg ht, List.append_nil] at hsn
        simp -implicitDefEqProofs only [x_q, x_o, x_b, x_k, x_x, x_r, x_it, x_if, x_p, p_nil, p_on, p_off, p_mv, p_pk, p_bn, p_un, p_be, p_nl, p_eqa, p_ci, p_cbs, p_csb, p_ex, p_bd, p_fd, p_ix, p_ixa, p_ss, p_sl, p_sla, p_ln, p_lns, p_lnm, p_al, p_bx, p_lal, p_lbx, p_ld, p_st, p_fa, p_ia, p_iaa, p_bs, p_lbs, p_mk, p_ap, p_cp, p_cl, p_cv, p_mf, p_nc, p_mm, p_mkm, p_lk, p_mu, p_dl, p_rs, p_nx, cfC, lgPut, isOk, rv, rh, Bool.false_eq_true, d_nil, d_on, d_off, d_mv, d_pk, d_bn, d_un, d_be, d_nl, d_eqa, d_ci, d_cbs, d_csb, d_ex, d_bd, d_fd, d_ix, d_ixa, d_ss, d_sl, d_sla, d_ln, d_lns, d_lnm, d_al, d_bx, d_lal, d_lbx, d_ld, d_st, d_fa, d_ia, d_iaa, d_bs, d_lbs, d_mk, d_ap, d_cp, d_cl, d_cv, d_mf, d_nc, d_mm, d_mkm, d_lk, d_mu, d_dl, d_rs, d_nx, okO, vlO, mmO, dsO, putE, args, evT, evs, evO, look, kOps, kSeq, kBlk, keepE, reduceIte, Nat.reduceEqDiff, binC, binV, intC, intV, strC, strV, unC, unV, AV.isI, AV.isB, AV.isS, AV.toI, AV.toK, AV.toS, allOut, o_b, o_i, o_s, o_np, o_pv, o_pe, o_ns, o_sl, o_nm, o_mp, o_nf, o_fn, o_ag, q_b, q_i, q_s, q_np, q_pv, q_pe, q_ns, q_sl, q_nm, q_mp, q_nf, q_fn, q_ag, Bool.and_true, Bool.and_self, Bool.true_and, AV.b.injEq, decide_eq_true_eq, decide_eq_false_iff_not, true_and, and_true, and_self, reduceCtorEq, imp_self, implies_true, forall_const, eq_self, ex_tp, ex_ag, List.getD_cons_zero, List.getD_cons_succ, List.length_cons, List.length_nil, Nat.reduceAdd, Nat.reduceLT, Nat.zero_add, bne_self_eq_false, decide_true, decide_false, eq_self, true_implies, false_implies, forall_const, Bool.true_eq_false, Bool.not_true, Bool.not_false, not_true_eq_false, not_false_eq_true, if_true, if_false, pickV, cond_true, cond_false, boolV, fillEC, fillE, List.replicate, List.set, Mem.newL, Mem.keep, Int.reduceToNat, Nat.reduceSub, List.drop_zero, Int.reduceLE, Int.le_refl, Nat.sub_zero, Mem.newL, Mem.newL, Mem.getL, Mem.hasL, lookL, setL, dropL, keepL, memN, la_faC, la_faV, la_ldC, la_ldX, la_stC, la_stM, partOf, partFits, setEl, setPart, Option.isSome_some, Option.getD_some, List.take_succ_cons, List.take_zero, List.drop_succ_cons, List.drop_zero, List.nil_append, List.cons_append, List.getD_cons_zero, List.getD_cons_succ, List.length_cons, List.length_nil, List.set_cons_zero, List.append_nil, List.drop_nil, List.take_nil, Nat.reduceAdd, Nat.reduceLT, Nat.reduceLeDiff, Nat.zero_add, Nat.add_zero, Nat.lt_add_one, Nat.le_refl, Nat.zero_le, Nat.zero_lt_succ, fillP, fillC, Nat.reduceLeDiff, lgAt, isRd, q2, q8, q36, q37, q38, hlt, hL, b1, b2, b3, b4, toNat_nat, ht, w9]
        exact ⟨m.ex.length - (i + 1), by omega, i + 1, g8, ed, ao, H', _, _, by omega, rfl, rfl, rfl, rfl, rfl, he, hm, hid, by rw [hsn]; exact hst⟩
    · have hil : i = m.ex.length := by omega
      rw [hil, List.take_length] at hst
      simp -implicitDefEqProofs only [x_q, x_o, x_b, x_k, x_x, x_r, x_it, x_if, x_p, p_nil, p_on, p_off, p_mv, p_pk, p_bn, p_un, p_be, p_nl, p_eqa, p_ci, p_cbs, p_csb, p_ex, p_bd, p_fd, p_ix, p_ixa, p_ss, p_sl, p_sla, p_ln, p_lns, p_lnm, p_al, p_bx, p_lal, p_lbx, p_ld, p_st, p_fa, p_ia, p_iaa, p_bs, p_lbs, p_mk, p_ap, p_cp, p_cl, p_cv, p_mf, p_nc, p_mm, p_mkm, p_lk, p_mu, p_dl, p_rs, p_nx, cfC, lgPut, isOk, rv, rh, Bool.false_eq_true, d_nil, d_on, d_off, d_mv, d_pk, d_bn, d_un, d_be, d_nl, d_eqa, d_ci, d_cbs, d_csb, d_ex, d_bd, d_fd, d_ix, d_ixa, d_ss, d_sl, d_sla, d_ln, d_lns, d_lnm, d_al, d_bx, d_lal, d_lbx, d_ld, d_st, d_fa, d_ia, d_iaa, d_bs, d_lbs, d_mk, d_ap, d_cp, d_cl, d_cv, d_mf, d_nc, d_mm, d_mkm, d_lk, d_mu, d_dl, d_rs, d_nx, okO, vlO, mmO, dsO, putE, args, evT, evs, evO, look, kOps, kSeq, kBlk, keepE, reduceIte, Nat.reduceEqDiff, binC, binV, intC, intV, strC, strV, unC, unV, AV.isI, AV.isB, AV.isS, AV.toI, AV.toK, AV.toS, allOut, o_b, o_i, o_s, o_np, o_pv, o_pe, o_ns, o_sl, o_nm, o_mp, o_nf, o_fn, o_ag, q_b, q_i, q_s, q_np, q_pv, q_pe, q_ns, q_sl, q_nm, q_mp, q_nf, q_fn, q_ag, Bool.and_true, Bool.and_self, Bool.true_and, AV.b.injEq, decide_eq_true_eq, decide_eq_false_iff_not, true_and, and_true, and_self, reduceCtorEq, imp_self, implies_true, forall_const, eq_self, ex_tp, ex_ag, List.getD_cons_zero, List.getD_cons_succ, List.length_cons, List.length_nil, Nat.reduceAdd, Nat.reduceLT, Nat.zero_add, bne_self_eq_false, decide_true, decide_false, eq_self, true_implies, false_implies, forall_const, Bool.true_eq_false, Bool.not_true, Bool.not_false, not_true_eq_false, not_false_eq_true, if_true, if_false, pickV, cond_true, cond_false, boolV, fillEC, fillE, List.replicate, List.set, Mem.newL, Mem.keep, Int.reduceToNat, Nat.reduceSub, List.drop_zero, Int.reduceLE, Int.le_refl, Nat.sub_zero, Mem.newL, Mem.newL, Mem.getL, Mem.hasL, lookL, setL, dropL, keepL, memN, la_faC, la_faV, la_ldC, la_ldX, la_stC, la_stM, partOf, partFits, setEl, setPart, Option.isSome_some, Option.getD_some, List.take_succ_cons, List.take_zero, List.drop_succ_cons, List.drop_zero, List.nil_append, List.cons_append, List.getD_cons_zero, List.getD_cons_succ, List.length_cons, List.length_nil, List.set_cons_zero, List.append_nil, List.drop_nil, List.take_nil, Nat.reduceAdd, Nat.reduceLT, Nat.reduceLeDiff, Nat.zero_add, Nat.add_zero, Nat.lt_add_one, Nat.le_refl, Nat.zero_le, Nat.zero_lt_succ, fillP, fillC, Nat.reduceLeDiff, lgAt, isRd, q2, q8, q36, q37, q38, hlt, hL, ho, hone, endK, rsC, rsV, resV]
      have hre : rdE m = (ed, 0) := by
        rcases hst with ⟨h1, rfl⟩ | ⟨r, h1, h2, h3, h4⟩
        · rw [hrd (by rw [h1]; simp), h1]
        · rw [hrd (by rw [h1]; simp), h1]
          simp only [h3, h2, if_true]
          rw [← h4]
      rw [hre]
      exact ⟨ao, rfl, hm, he, hid⟩
end
end Go.Vm

/- Functions' code as literals of the abstract machine, printed by wip/tools/lits.py; the kernel checks each against the translation. -/
namespace Go.Vm
set_option linter.unusedVariables false
set_option linter.unusedSimpArgs false
/-- loop.example/s01858/spec.DrawEdnsRecord -/
def c_spec_DrawEdnsRecord : Fn := ⟨1, [(.t 2), (.t 3), (.t 4), (.t 5)],
    .q (.o [.mv 2 (.c (.i .i64 0)),
      .mv 3 (.c (.i .i64 0)),
      .mv 4 (.c (.i .i64 0)),
      .mv 5 (.c .ns)])
    (.q (.o [.mv 11 (.t 0),
      .cl (some 12) 23 [(.t 11)],
      .al 6 3 [(.ag [.ns, (.i .i64 0), (.i .u64 0)])],
      .st (.t 6) (.t 12) 3])
    (.q (.o [.cl (some 13) 24 [(.t 6), (.c (.i .i64 65536))],
      .mv 7 (.t 13)])
    (.q (.o [.cl (some 14) 24 [(.t 6), (.c (.i .i64 256))],
      .mv 8 (.t 14)])
    (.q (.o [.cl (some 15) 24 [(.t 6), (.c (.i .i64 65536))],
      .mv 9 (.t 15)])
    (.q (.o [.cl (some 16) 25 [(.t 6)],
      .mv 10 (.t 16)])
    (.q (.q (.o [.cl (some 17) 24 [(.t 6), (.c (.i .i64 16))]])
    (.b 0 (.q (.o [.bn 19 .eql (.t 17) (.c (.i .i64 0)),
      .mv 18 (.t 19)])
    (.i (.t 18) (.o [.mv 7 (.c (.i .i64 65536))])
    (.q (.o [.bn 21 .eql (.t 17) (.c (.i .i64 1)),
      .mv 20 (.t 21)])
    (.i (.t 20) (.o [.mv 8 (.c (.i .i64 256))])
    (.q (.o [.bn 23 .eql (.t 17) (.c (.i .i64 2)),
      .mv 22 (.t 23)])
    (.i (.t 22) (.o [.mv 9 (.c (.i .i64 (-1)))])
    (.q (.o [.bn 25 .eql (.t 17) (.c (.i .i64 3)),
      .mv 24 (.t 25)])
    (.i (.t 24) (.o [.mv 26 (.t 10),
      .bd 27 [(.i .i64 0), (.s [])] [(0, 1, (.c (.i .i64 65536)))],
      .lbs 28 (.ag [(.i .i64 0), (.s [])]) 2 1 [(0, (.t 27))],
      .ap 29 (.t 26) (.t 28) 2 24,
      .mv 10 (.t 29)])
    (.q (.o [.bn 31 .eql (.t 17) (.c (.i .i64 4)),
      .mv 30 (.t 31)])
    (.i (.t 30) (.o [.mv 32 (.t 10),
      .cl (some 33) 24 [(.t 6), (.c (.i .i64 2))],
      .bn 34 .sub (.c (.i .i64 65531)) (.t 33),
      .mk 35 (.i .u8 0) 1 1 (.t 34),
      .cbs 36 (.t 35),
      .bd 37 [(.i .i64 0), (.s [])] [(1, 1, (.t 36))],
      .lbs 38 (.ag [(.i .i64 0), (.s [])]) 2 1 [(0, (.t 37))],
      .ap 39 (.t 32) (.t 38) 2 24,
      .mv 10 (.t 39)])
    (.q (.o [.bn 41 .eql (.t 17) (.c (.i .i64 5)),
      .mv 40 (.t 41)])
    (.i (.t 40) (.o [.cl (some 42) 24 [(.t 6), (.c (.i .i64 3))],
      .bn 43 .add (.c (.i .i64 65530)) (.t 42),
      .mk 44 (.i .u8 0) 1 1 (.t 43),
      .cbs 45 (.t 44),
      .bd 46 [(.i .i64 0), (.s [])] [(1, 1, (.t 45))],
      .bs 47 (.ag [(.i .i64 0), (.s [])]) 2 1 [(0, (.t 46))],
      .mv 10 (.t 47)])
    (.k)))))))))))))))
    (.q (.o [.mv 48 (.t 7),
      .mv 49 (.t 8),
      .mv 50 (.t 9),
      .mv 51 (.t 10),
      .mv 2 (.t 48),
      .mv 3 (.t 49),
      .mv 4 (.t 50),
      .mv 5 (.t 51)])
    (.r))))))))⟩
abbrev n_spec_DrawEdnsRecord : Nat := 6
theorem k_spec_DrawEdnsRecord : chkF Go.Proofs.Tryd.prog c_spec_DrawEdnsRecord 6 = true := by kernel_rfl
/-- loop.example/s01858/spec.l01Begin -/
def c_spec_l01Begin : Fn := ⟨1, [(.c 2 (some 3))],
    .q (.o [.lal 2 (.ag [.ns, (.i .i64 0), (.i .u64 0)])])
    (.q (.o [.mv 5 (.t 0),
      .bd 6 [.ns, (.i .i64 0), (.i .u64 0)] [(0, 1, (.t 5))],
      .lal 3 (.ag [.ns, (.i .i64 0), (.i .u64 0)]),
      .st (.t 3) (.t 6) 3])
    (.q (.o [.fa 7 (.t 3) 2,
      .st (.t 7) (.c (.i .u64 1469598103934665603)) 1])
    (.q (.q (.o [.mv 4 (.c (.i .i64 0))])
    (.b 0 (.l [0, 2, 3, 4] (.q (.q (.o [.mv 8 (.t 4),
      .mv 9 (.t 0),
      .ln 10 (.t 9),
      .bn 11 .lss (.t 8) (.t 10)])
    (.i (.t 11) (.k)
    (.x 0)))
    (.q (.b 1 (.p [⟨.fa 14 (.t 3) 2, [], false⟩,
      ⟨.ld 15 (.t 14) none, [], false⟩,
      ⟨.mv 16 (.t 0), [], false⟩,
      ⟨.mv 17 (.t 4), [], false⟩,
      ⟨.ia 18 (.t 16) (.t 17) 1, [], false⟩,
      ⟨.ld 19 (.t 18) none, [], false⟩,
      ⟨.ci 20 .u64 (.t 19), [], false⟩,
      ⟨.bn 21 .xor (.t 15) (.t 20), [], false⟩,
      ⟨.bn 22 .mul (.t 21) (.c (.i .u64 1099511628211)), [], false⟩,
      ⟨.fa 23 (.t 3) 2, [], false⟩,
      ⟨.st (.t 23) (.t 22) 1, [], false⟩]))
    (.o [.mv 12 (.t 4),
      .bn 13 .add (.t 12) (.c (.i .i64 1)),
      .mv 4 (.t 13)]))))))
    (.q (.o [.ld 24 (.t 3) (some 3),
      .st (.t 2) (.t 24) 3])
    (.r)))))⟩
abbrev n_spec_l01Begin : Nat := 23
theorem k_spec_l01Begin : chkF Go.Proofs.Tryd.prog c_spec_l01Begin 23 = true := by kernel_rfl
/-- loop.example/s01858/spec.l01Next -/
def c_spec_l01Next : Fn := ⟨2, [(.t 4)],
    .q (.o [.mv 4 (.c (.i .i64 0))])
    (.q (.q (.o [.mv 6 (.t 1),
      .bn 7 .leq (.t 6) (.c (.i .i64 0))])
    (.i (.t 7) (.q (.o [.mv 4 (.c (.i .i64 0))])
    (.r))
    (.k)))
    (.q (.o [.mv 8 (.t 0),
      .mv 9 (.t 0),
      .nc 10 (.t 9),
      .fa 11 (.t 10) 2,
      .ld 12 (.t 11) none,
      .bn 13 .mul (.t 12) (.c (.i .u64 6364136223846793005)),
      .bn 14 .add (.t 13) (.c (.i .u64 1442695040888963407)),
      .nc 15 (.t 8),
      .fa 16 (.t 15) 2,
      .st (.t 16) (.t 14) 1])
    (.q (.o [.mv 17 (.t 0),
      .nc 18 (.t 17),
      .fa 19 (.t 18) 2,
      .ld 20 (.t 19) none,
      .bn 21 .shr (.t 20) (.c (.i .u64 33)),
      .mv 5 (.t 21)])
    (.q (.q (.p [⟨.mv 22 (.t 0), [], false⟩,
      ⟨.nc 23 (.t 22), [], false⟩,
      ⟨.fa 24 (.t 23) 1, [], false⟩,
      ⟨.ld 25 (.t 24) none, [], false⟩,
      ⟨.mv 26 (.t 0), [], false⟩,
      ⟨.nc 27 (.t 26), [], false⟩,
      ⟨.fa 28 (.t 27) 0, [], false⟩,
      ⟨.ld 29 (.t 28) none, [], false⟩,
      ⟨.ln 30 (.t 29), [], false⟩,
      ⟨.bn 31 .lss (.t 25) (.t 30), [], false⟩])
    (.i (.t 31) (.q (.p [⟨.mv 32 (.t 5), [], false⟩,
      ⟨.mv 33 (.t 0), [], false⟩,
      ⟨.nc 34 (.t 33), [], false⟩,
      ⟨.fa 35 (.t 34) 0, [], false⟩,
      ⟨.ld 36 (.t 35) none, [], false⟩,
      ⟨.mv 37 (.t 0), [], false⟩,
      ⟨.nc 38 (.t 37), [], false⟩,
      ⟨.fa 39 (.t 38) 1, [], false⟩,
      ⟨.ld 40 (.t 39) none, [], false⟩,
      ⟨.ia 41 (.t 36) (.t 40) 1, [], false⟩,
      ⟨.ld 42 (.t 41) none, [], false⟩,
      ⟨.ci 43 .u64 (.t 42), [], false⟩,
      ⟨.bn 44 .xor (.t 32) (.t 43), [], false⟩,
      ⟨.mv 5 (.t 44), [], false⟩])
    (.o [.mv 45 (.t 0),
      .mv 46 (.t 0),
      .nc 47 (.t 46),
      .fa 48 (.t 47) 1,
      .ld 49 (.t 48) none,
      .bn 50 .add (.t 49) (.c (.i .i64 1)),
      .nc 51 (.t 45),
      .fa 52 (.t 51) 1,
      .st (.t 52) (.t 50) 1]))
    (.k)))
    (.q (.o [.mv 53 (.t 5),
      .mv 54 (.t 1),
      .ci 55 .u64 (.t 54),
      .bn 56 .rem (.t 53) (.t 55),
      .ci 57 .i64 (.t 56),
      .mv 4 (.t 57)])
    (.r))))))⟩
abbrev n_spec_l01Next : Nat := 24
theorem k_spec_l01Next : chkF Go.Proofs.Tryd.prog c_spec_l01Next 24 = true := by kernel_rfl
/-- loop.example/s01858/spec.l13DrawOptions -/
def c_spec_l13DrawOptions : Fn := ⟨1, [(.t 2)],
    .q (.o [.mv 2 (.c .ns)])
    (.q (.o [.bs 6 (.ag [(.i .i64 0), (.s [])]) 2 0 [],
      .mv 3 (.t 6)])
    (.q (.o [.mv 7 (.t 0),
      .cl (some 8) 24 [(.t 7), (.c (.i .i64 3))],
      .mv 4 (.t 8)])
    (.q (.q (.o [.mv 5 (.c (.i .i64 0))])
    (.b 0 (.l [0, 3, 4, 5] (.q (.q (.o [.mv 9 (.t 5),
      .mv 10 (.t 4),
      .bn 11 .lss (.t 9) (.t 10)])
    (.i (.t 11) (.k)
    (.x 0)))
    (.q (.b 1 (.o [.mv 14 (.t 3),
      .mv 15 (.t 0),
      .cl (some 16) 24 [(.t 15), (.c (.i .i64 20))],
      .mv 17 (.t 0),
      .mv 18 (.t 0),
      .cl (some 19) 24 [(.t 18), (.c (.i .i64 5))],
      .cl (some 20) 59 [(.t 17), (.t 19)],
      .bd 21 [(.i .i64 0), (.s [])] [(0, 1, (.t 16)), (1, 1, (.t 20))],
      .lbs 22 (.ag [(.i .i64 0), (.s [])]) 2 1 [(0, (.t 21))],
      .ap 23 (.t 14) (.t 22) 2 24,
      .mv 3 (.t 23)]))
    (.o [.mv 12 (.t 5),
      .bn 13 .add (.t 12) (.c (.i .i64 1)),
      .mv 5 (.t 13)]))))))
    (.q (.o [.mv 24 (.t 3),
      .mv 2 (.t 24)])
    (.r)))))⟩
abbrev n_spec_l13DrawOptions : Nat := 25
theorem k_spec_l13DrawOptions : chkF Go.Proofs.Tryd.prog c_spec_l13DrawOptions 25 = true := by kernel_rfl
/-- loop.example/s01858/spec.l01Bytes -/
def c_spec_l01Bytes : Fn := ⟨2, [(.t 4)],
    .q (.o [.mv 4 (.c (.s []))])
    (.q (.o [.bs 7 (.i .u8 0) 1 0 [],
      .mv 5 (.t 7)])
    (.q (.q (.o [.mv 6 (.c (.i .i64 0))])
    (.b 0 (.l [0, 1, 5, 6] (.q (.q (.o [.mv 8 (.t 6),
      .mv 9 (.t 1),
      .bn 10 .lss (.t 8) (.t 9)])
    (.i (.t 10) (.k)
    (.x 0)))
    (.q (.b 1 (.o [.mv 13 (.t 5),
      .mv 14 (.t 0),
      .cl (some 15) 24 [(.t 14), (.c (.i .i64 256))],
      .ci 16 .u8 (.t 15),
      .lbs 17 (.i .u8 0) 1 1 [(0, (.t 16))],
      .ap 18 (.t 13) (.t 17) 1 1,
      .mv 5 (.t 18)]))
    (.o [.mv 11 (.t 6),
      .bn 12 .add (.t 11) (.c (.i .i64 1)),
      .mv 6 (.t 12)]))))))
    (.q (.o [.mv 19 (.t 5),
      .cbs 20 (.t 19),
      .mv 4 (.t 20)])
    (.r))))⟩
abbrev n_spec_l01Bytes : Nat := 59
theorem k_spec_l01Bytes : chkF Go.Proofs.Tryd.prog c_spec_l01Bytes 59 = true := by kernel_rfl
end Go.Vm

/- Draws of the laws: a source of numbers, drawn options. Only what holds of every draw. -/
namespace Go.Vm
set_option linter.unusedVariables false
set_option linter.unusedSimpArgs false
/-- A source: its code, its place, its state. -/
structure Src (H : AH) (id : Nat) (a : AV) (l : List UInt8) : Prop where
  ex : ∃ pos st : Int, Obj1 H id [a, .i .i64 pos, .i .u64 st] ∧ 0 ≤ pos ∧ pos ≤ l.length
  by' : Byt H a l
  ne : ¬ id ∈ idA a
theorem Src.ext {H H' : AH} {id : Nat} {a : AV} {l : List UInt8} (h : Src H id a l) (he : Ext H H') : Src H' id a l := by
  obtain ⟨⟨pos, st, h1, h2, h3⟩, h4, h5⟩ := h
  exact ⟨⟨pos, st, h1.ext he, h2, h3⟩, Sl.ext h4 he, h5⟩
def T_l01Next (C : Tab) (f : Nat) : Prop := ∀ (id : Nat) (a : AV) (l : List UInt8) (n : Int) (H : AH), Src H id a l → l.length ≤ 1099511627776 → 0 < n → n ≤ 1099511627776 → ∃ v H', C f [.pv id 0, .i .i64 n] H = some (v, H') ∧ (∃ r : Nat, v = .i .i64 r ∧ (r : Int) < n) ∧ Src H' id a l ∧ Kp [id] H H'
theorem bitw_u64 (op : BinOp) (x y : Int) : 0 ≤ bitw op .u64 x y := by
  unfold bitw
  simp only
  rw [IntKind.wrap_u64]
  omega
theorem wrap_u64_nn (x : Int) : 0 ≤ IntKind.u64.wrap x := by rw [IntKind.wrap_u64]; omega
section
variable {C : Tab}
theorem r_l01Next {id : Nat} {a : AV} {l : List UInt8} {n : Int} {H : AH} (h : Src H id a l) (hl : l.length ≤ 1099511627776) (hn : 0 < n) (hn2 : n ≤ 1099511627776) :
    Runs C c_spec_l01Next [.pv id 0, .i .i64 n] H fun v H' => (∃ r : Nat, v = .i .i64 r ∧ (r : Int) < n) ∧ Src H' id a l ∧ Kp [id] H H' := by
  unfold Runs c_spec_l01Next
  obtain ⟨⟨pos, st, h1, h2, h3⟩, h4, h5⟩ := h
  have hn0 : ¬ n ≤ 0 := by omega
  obtain ⟨a1, a2⟩ := h1.ld (off := 2) (by simp)
  have a2' := fun (L : List Lv) (g : Nat) => (a2 L g).trans (show _ = AV.i .u64 st from rfl)
  generalize hs : IntKind.u64.wrap (IntKind.u64.wrap (st * 6364136223846793005) + 1442695040888963407) = st2
  have hst2 : 0 ≤ st2 := by rw [← hs]; exact wrap_u64_nn _
  obtain ⟨b1, H1, b2, b3, b4, b5⟩ := h1.st (off := 2) (v := .i .u64 st2) (by simp) rfl
  have b3 : Obj1 H1 id [a, .i .i64 pos, .i .u64 st2] := b3
  obtain ⟨c1, c2⟩ := b3.ld (off := 2) (by simp)
  have c2' := fun (L : List Lv) (g : Nat) => (c2 L g).trans (show _ = AV.i .u64 st2 from rfl)
  obtain ⟨d1, d2⟩ := b3.ld (off := 1) (by simp)
  have d2' := fun (L : List Lv) (g : Nat) => (d2 L g).trans (show _ = AV.i .i64 pos from rfl)
  obtain ⟨e1, e2⟩ := b3.ld (off := 0) (by simp)
  have e2' := fun (L : List Lv) (g : Nat) => (e2 L g).trans (show _ = a from rfl)
  have k1 : Kp [id] H H1 := Kp.st b4 b5
  have hb : Byt H1 a l := k1.sl h4 fun i hi hm => by simp only [List.mem_singleton] at hm; subst hm; exact h5 hi
  obtain ⟨l1, l2⟩ := Byt.len hb
  have hx0 : 0 ≤ st2.fdiv (2 ^ (min 33 IntKind.u64.bits)) := by
    rw [Int.fdiv_eq_ediv_of_nonneg _ (Int.le_of_lt (Int.pow_pos (by decide)))]
    exact Int.ediv_nonneg hst2 (Int.le_of_lt (Int.pow_pos (by decide)))
  have hnw : IntKind.u64.wrap n = n := by rw [IntKind.wrap_u64]; omega
  have hnz : n ≠ 0 := by omega
  have hfin : ∀ x : Int, 0 ≤ x → ∃ r : Nat, IntKind.i64.wrap (x.tmod n) = r ∧ (r : Int) < n := fun x hx => by
    rw [Int.tmod_eq_emod_of_nonneg hx]
    have q1 := Int.emod_nonneg x hnz
    have q2 := Int.emod_lt_of_pos x hn
    refine ⟨(x % n).toNat, ?_, by omega⟩
    rw [w64 (by omega) (by omega)]; omega
  have h2' : (0 : Int) ≤ pos := h2
  have hout := h4.out
  have hone := h4.one
  by_cases hp : pos < (l.length : Int)
  · obtain ⟨p1, p2, p3, p4⟩ : slZ H1 1 a ∧ iaC pos a ∧ (∀ (L : List Lv) (g : Nat), ldC ⟨L, g, H1⟩ none (iaV pos.toNat a)) ∧ ∀ (L : List Lv) (g : Nat), ldX ⟨L, g, H1⟩ none (iaV pos.toNat a) = .i .u8 (l.getD pos.toNat 0).toNat := by
      obtain ⟨p1, p2, -, -⟩ := hb.ia h2 hp [] 0
      exact ⟨p1, p2, fun L g => (hb.ia h2 hp L g).2.2.1, fun L g => (hb.ia h2 hp L g).2.2.2⟩
    obtain ⟨f1, H2, f2, f3, f4, f5⟩ := b3.st (off := 1) (v := .i .i64 (pos + 1)) (by simp) rfl
    have f3 : Obj1 H2 id [a, .i .i64 (pos + 1), .i .u64 st2] := f3
    have k2 : Kp [id] H1 H2 := Kp.st f4 f5
    have hw : IntKind.i64.wrap (pos + 1) = pos + 1 := w64 (by omega) (by omega)
    obtain ⟨r, r1, r2⟩ := hfin (bitw .xor .u64 (st2.fdiv (2 ^ (min 33 IntKind.u64.bits))) (IntKind.u64.wrap ((l.getD pos.toNat 0).toNat : Int))) (bitw_u64 _ _ _)
    simp -implicitDefEqProofs only [x_q, x_o, x_b, x_k, x_x, x_r, x_it, x_if, x_p, p_nil, p_on, p_off, p_mv, p_pk, p_bn, p_un, p_be, p_nl, p_eqa, p_ci, p_cbs, p_csb, p_ex, p_bd, p_fd, p_ix, p_ixa, p_ss, p_sl, p_sla, p_ln, p_lns, p_lnm, p_al, p_bx, p_lal, p_lbx, p_ld, p_st, p_fa, p_ia, p_iaa, p_bs, p_lbs, p_mk, p_ap, p_cp, p_cl, p_cv, p_mf, p_nc, p_mm, p_mkm, p_lk, p_mu, p_dl, p_rs, p_nx, cfC, lgPut, isOk, rv, rh, Bool.false_eq_true, d_nil, d_on, d_off, d_mv, d_pk, d_bn, d_un, d_be, d_nl, d_eqa, d_ci, d_cbs, d_csb, d_ex, d_bd, d_fd, d_ix, d_ixa, d_ss, d_sl, d_sla, d_ln, d_lns, d_lnm, d_al, d_bx, d_lal, d_lbx, d_ld, d_st, d_fa, d_ia, d_iaa, d_bs, d_lbs, d_mk, d_ap, d_cp, d_cl, d_cv, d_mf, d_nc, d_mm, d_mkm, d_lk, d_mu, d_dl, d_rs, d_nx, okO, vlO, mmO, dsO, putE, args, evT, evs, evO, look, kOps, kSeq, kBlk, keepE, reduceIte, Nat.reduceEqDiff, binC, binV, intC, intV, strC, strV, unC, unV, AV.isI, AV.isB, AV.isS, AV.toI, AV.toK, AV.toS, allOut, o_b, o_i, o_s, o_np, o_pv, o_pe, o_ns, o_sl, o_nm, o_mp, o_nf, o_fn, o_ag, q_b, q_i, q_s, q_np, q_pv, q_pe, q_ns, q_sl, q_nm, q_mp, q_nf, q_fn, q_ag, Bool.and_true, Bool.and_self, Bool.true_and, AV.b.injEq, decide_eq_true_eq, decide_eq_false_iff_not, true_and, and_true, and_self, reduceCtorEq, imp_self, implies_true, forall_const, eq_self, ex_tp, ex_ag, List.getD_cons_zero, List.getD_cons_succ, List.length_cons, List.length_nil, Nat.reduceAdd, Nat.reduceLT, Nat.zero_add, bne_self_eq_false, decide_true, decide_false, eq_self, true_implies, false_implies, forall_const, Bool.true_eq_false, Bool.not_true, Bool.not_false, not_true_eq_false, not_false_eq_true, if_true, if_false, pickV, cond_true, cond_false, boolV, fillEC, fillE, List.replicate, List.set, Mem.newL, Mem.keep, Int.reduceToNat, Nat.reduceSub, List.drop_zero, Int.reduceLE, Int.le_refl, Nat.sub_zero, Mem.newL, Nat.zero_add, pv_faC, pv_faV, hn0, hs, a1, a2', b1, b2, c1, c2', d1, d2', e1, e2', l1, l2, hp, p1, p2, p3, p4, f1, f2, hw, hnw, hnz, ne_eq, r1, Int.reduceToNat, endK, rsC, rsV, resV]
    exact ⟨⟨r, rfl, r2⟩, ⟨⟨pos + 1, st2, f3, by omega, by omega⟩, k2.sl hb fun i hi hm => by simp only [List.mem_singleton] at hm; subst hm; exact h5 hi, h5⟩, k1.trans k2⟩
  · obtain ⟨r, r1, r2⟩ := hfin _ hx0
    simp -implicitDefEqProofs only [x_q, x_o, x_b, x_k, x_x, x_r, x_it, x_if, x_p, p_nil, p_on, p_off, p_mv, p_pk, p_bn, p_un, p_be, p_nl, p_eqa, p_ci, p_cbs, p_csb, p_ex, p_bd, p_fd, p_ix, p_ixa, p_ss, p_sl, p_sla, p_ln, p_lns, p_lnm, p_al, p_bx, p_lal, p_lbx, p_ld, p_st, p_fa, p_ia, p_iaa, p_bs, p_lbs, p_mk, p_ap, p_cp, p_cl, p_cv, p_mf, p_nc, p_mm, p_mkm, p_lk, p_mu, p_dl, p_rs, p_nx, cfC, lgPut, isOk, rv, rh, Bool.false_eq_true, d_nil, d_on, d_off, d_mv, d_pk, d_bn, d_un, d_be, d_nl, d_eqa, d_ci, d_cbs, d_csb, d_ex, d_bd, d_fd, d_ix, d_ixa, d_ss, d_sl, d_sla, d_ln, d_lns, d_lnm, d_al, d_bx, d_lal, d_lbx, d_ld, d_st, d_fa, d_ia, d_iaa, d_bs, d_lbs, d_mk, d_ap, d_cp, d_cl, d_cv, d_mf, d_nc, d_mm, d_mkm, d_lk, d_mu, d_dl, d_rs, d_nx, okO, vlO, mmO, dsO, putE, args, evT, evs, evO, look, kOps, kSeq, kBlk, keepE, reduceIte, Nat.reduceEqDiff, binC, binV, intC, intV, strC, strV, unC, unV, AV.isI, AV.isB, AV.isS, AV.toI, AV.toK, AV.toS, allOut, o_b, o_i, o_s, o_np, o_pv, o_pe, o_ns, o_sl, o_nm, o_mp, o_nf, o_fn, o_ag, q_b, q_i, q_s, q_np, q_pv, q_pe, q_ns, q_sl, q_nm, q_mp, q_nf, q_fn, q_ag, Bool.and_true, Bool.and_self, Bool.true_and, AV.b.injEq, decide_eq_true_eq, decide_eq_false_iff_not, true_and, and_true, and_self, reduceCtorEq, imp_self, implies_true, forall_const, eq_self, ex_tp, ex_ag, List.getD_cons_zero, List.getD_cons_succ, List.length_cons, List.length_nil, Nat.reduceAdd, Nat.reduceLT, Nat.zero_add, bne_self_eq_false, decide_true, decide_false, eq_self, true_implies, false_implies, forall_const, Bool.true_eq_false, Bool.not_true, Bool.not_false, not_true_eq_false, not_false_eq_true, if_true, if_false, pickV, cond_true, cond_false, boolV, fillEC, fillE, List.replicate, List.set, Mem.newL, Mem.keep, Int.reduceToNat, Nat.reduceSub, List.drop_zero, Int.reduceLE, Int.le_refl, Nat.sub_zero, Mem.newL, Nat.zero_add, pv_faC, pv_faV, hn0, hs, a1, a2', b1, b2, c1, c2', d1, d2', e1, e2', l1, l2, hp, hnw, hnz, ne_eq, r1, Int.reduceToNat, endK, rsC, rsV, resV]
    exact ⟨⟨r, rfl, r2⟩, ⟨⟨pos, st2, b3, h2, h3⟩, hb, h5⟩, k1⟩
def T_l01Begin (C : Tab) (f : Nat) : Prop := ∀ (a : AV) (l : List UInt8) (H : AH), Byt H a l → l.length ≤ 1099511627776 → ∃ v H', C f [a] H = some (v, H') ∧ (∃ st : Int, v = .ag [a, .i .i64 0, .i .u64 st]) ∧ H' = H
def T_l01Bytes (C : Tab) (f : Nat) : Prop := ∀ (id : Nat) (a : AV) (l : List UInt8) (n : Nat) (H : AH), Src H id a l → l.length ≤ 1099511627776 → n ≤ 1000 → ∃ v H', C f [.pv id 0, .i .i64 n] H = some (v, H') ∧ (∃ bs : List UInt8, v = .s bs ∧ bs.length = n) ∧ Src H' id a l ∧ Kp [id] H H'
def T_drawOptions (C : Tab) (f : Nat) : Prop := ∀ (id : Nat) (a : AV) (l : List UInt8) (H : AH), Src H id a l → l.length ≤ 1099511627776 → ∃ v H', C f [.pv id 0] H = some (v, H') ∧ (∃ os, Mx H' eO v os ∧ os.length + tot' wO os ≤ 100) ∧ Src H' id a l ∧ Kp [id] H H' ∧ ∀ i, i ∈ idA v → H.n ≤ i
theorem Src.lt {H : AH} {id : Nat} {a : AV} {l : List UInt8} (h : Src H id a l) : id < H.n := by
  obtain ⟨⟨_, _, h1, -⟩, -⟩ := h
  exact h1.lt
theorem Src.kp {H H' : AH} {ids : List Nat} {id : Nat} {a : AV} {l : List UInt8} (h : Src H id a l) (hk : Kp ids H H') (hi : ¬ id ∈ ids) (ha : ∀ i, i ∈ idA a → ¬ i ∈ ids) : Src H' id a l := by
  obtain ⟨⟨pos, st, h1, h2, h3⟩, h4, h5⟩ := h
  exact ⟨⟨pos, st, h1.kp hk hi, h2, h3⟩, hk.sl h4 ha, h5⟩
theorem r_l01Begin {a : AV} {l : List UInt8} {H : AH} (h : Byt H a l) (hl : l.length ≤ 1099511627776) : Runs C c_spec_l01Begin [a] H fun v H' => (∃ st : Int, v = .ag [a, .i .i64 0, .i .u64 st]) ∧ H' = H := by
  unfold Runs c_spec_l01Begin
  obtain ⟨l1, l2⟩ := Byt.len h
  have ho := h.out
  have hone := h.one
  simp -implicitDefEqProofs only [x_q, x_o, x_b, x_k, x_x, x_r, x_it, x_if, x_p, p_nil, p_on, p_off, p_mv, p_pk, p_bn, p_un, p_be, p_nl, p_eqa, p_ci, p_cbs, p_csb, p_ex, p_bd, p_fd, p_ix, p_ixa, p_ss, p_sl, p_sla, p_ln, p_lns, p_lnm, p_al, p_bx, p_lal, p_lbx, p_ld, p_st, p_fa, p_ia, p_iaa, p_bs, p_lbs, p_mk, p_ap, p_cp, p_cl, p_cv, p_mf, p_nc, p_mm, p_mkm, p_lk, p_mu, p_dl, p_rs, p_nx, cfC, lgPut, isOk, rv, rh, Bool.false_eq_true, d_nil, d_on, d_off, d_mv, d_pk, d_bn, d_un, d_be, d_nl, d_eqa, d_ci, d_cbs, d_csb, d_ex, d_bd, d_fd, d_ix, d_ixa, d_ss, d_sl, d_sla, d_ln, d_lns, d_lnm, d_al, d_bx, d_lal, d_lbx, d_ld, d_st, d_fa, d_ia, d_iaa, d_bs, d_lbs, d_mk, d_ap, d_cp, d_cl, d_cv, d_mf, d_nc, d_mm, d_mkm, d_lk, d_mu, d_dl, d_rs, d_nx, okO, vlO, mmO, dsO, putE, args, evT, evs, evO, look, kOps, kSeq, kBlk, keepE, reduceIte, Nat.reduceEqDiff, binC, binV, intC, intV, strC, strV, unC, unV, AV.isI, AV.isB, AV.isS, AV.toI, AV.toK, AV.toS, allOut, o_b, o_i, o_s, o_np, o_pv, o_pe, o_ns, o_sl, o_nm, o_mp, o_nf, o_fn, o_ag, q_b, q_i, q_s, q_np, q_pv, q_pe, q_ns, q_sl, q_nm, q_mp, q_nf, q_fn, q_ag, Bool.and_true, Bool.and_self, Bool.true_and, AV.b.injEq, decide_eq_true_eq, decide_eq_false_iff_not, true_and, and_true, and_self, reduceCtorEq, imp_self, implies_true, forall_const, eq_self, ex_tp, ex_ag, List.getD_cons_zero, List.getD_cons_succ, List.length_cons, List.length_nil, Nat.reduceAdd, Nat.reduceLT, Nat.zero_add, bne_self_eq_false, decide_true, decide_false, eq_self, true_implies, false_implies, forall_const, Bool.true_eq_false, Bool.not_true, Bool.not_false, not_true_eq_false, not_false_eq_true, if_true, if_false, pickV, cond_true, cond_false, boolV, fillEC, fillE, List.replicate, List.set, Mem.newL, Mem.keep, Int.reduceToNat, Nat.reduceSub, List.drop_zero, Int.reduceLE, Int.le_refl, Nat.sub_zero, Mem.newL, Mem.newL, Mem.getL, Mem.hasL, lookL, setL, dropL, keepL, memN, la_faC, la_faV, la_ldC, la_ldX, la_stC, la_stM, partOf, partFits, setEl, setPart, Option.isSome_some, Option.getD_some, List.take_succ_cons, List.take_zero, List.drop_succ_cons, List.drop_zero, List.nil_append, List.cons_append, List.getD_cons_zero, List.getD_cons_succ, List.length_cons, List.length_nil, List.set_cons_zero, List.append_nil, List.drop_nil, List.take_nil, Nat.reduceAdd, Nat.reduceLT, Nat.reduceLeDiff, Nat.zero_add, Nat.add_zero, Nat.lt_add_one, Nat.le_refl, Nat.zero_le, Nat.zero_lt_succ, fillP, fillC, Nat.reduceLeDiff, lgAt, isRd, ho, hone, l1, l2]
  refine exec_loop (fun n e M => ∃ (i : Nat) (st : Int) (L : List Lv) (g : Nat), i ≤ l.length ∧ n = l.length - i ∧ look e 0 = a ∧ look e 2 = .la 2 0 0 0 ∧ look e 3 = .la 3 1 0 0 ∧ look e 4 = .i .i64 i ∧ M = ⟨L, g, H⟩ ∧
    keepL [0, 2, 3, 4] L = [⟨3, 1, 0, [.ag [a, .i .i64 0, .i .u64 st]]⟩, ⟨2, 0, 0, [.ag [.ns, .i .i64 0, .i .u64 0]]⟩]) ?_ (n := l.length) ⟨0, _, _, _, by omega, by omega, rfl, rfl, rfl, rfl, rfl, rfl⟩
  rintro n e M ⟨i, st, L, g, hi, rfl, q0, q2, q3, q4, rfl, hL⟩
  by_cases hlt : (i : Int) < l.length
  · have hp : (0 : Int) ≤ i := by omega
    obtain ⟨p1, p2, p3, p4⟩ : slZ H 1 a ∧ iaC (i : Int) a ∧ (∀ (L : List Lv) (g : Nat), ldC ⟨L, g, H⟩ none (iaV i a)) ∧ ∀ (L : List Lv) (g : Nat), ldX ⟨L, g, H⟩ none (iaV i a) = .i .u8 (l.getD i 0).toNat := by
      obtain ⟨p1, p2, -, -⟩ := h.ia hp hlt [] 0
      exact ⟨p1, p2, fun L g => (h.ia hp hlt L g).2.2.1, fun L g => (h.ia hp hlt L g).2.2.2⟩
    have w9 : IntKind.i64.wrap ((i : Int) + 1) = ((i + 1 : Nat) : Int) := by rw [w64 (by omega) (by omega)]; rfl
    simp -implicitDefEqProofs only [x_q, x_o, x_b, x_k, x_x, x_r, x_it, x_if, x_p, p_nil, p_on, p_off, p_mv, p_pk, p_bn, p_un, p_be, p_nl, p_eqa, p_ci, p_cbs, p_csb, p_ex, p_bd, p_fd, p_ix, p_ixa, p_ss, p_sl, p_sla, p_ln, p_lns, p_lnm, p_al, p_bx, p_lal, p_lbx, p_ld, p_st, p_fa, p_ia, p_iaa, p_bs, p_lbs, p_mk, p_ap, p_cp, p_cl, p_cv, p_mf, p_nc, p_mm, p_mkm, p_lk, p_mu, p_dl, p_rs, p_nx, cfC, lgPut, isOk, rv, rh, Bool.false_eq_true, d_nil, d_on, d_off, d_mv, d_pk, d_bn, d_un, d_be, d_nl, d_eqa, d_ci, d_cbs, d_csb, d_ex, d_bd, d_fd, d_ix, d_ixa, d_ss, d_sl, d_sla, d_ln, d_lns, d_lnm, d_al, d_bx, d_lal, d_lbx, d_ld, d_st, d_fa, d_ia, d_iaa, d_bs, d_lbs, d_mk, d_ap, d_cp, d_cl, d_cv, d_mf, d_nc, d_mm, d_mkm, d_lk, d_mu, d_dl, d_rs, d_nx, okO, vlO, mmO, dsO, putE, args, evT, evs, evO, look, kOps, kSeq, kBlk, keepE, reduceIte, Nat.reduceEqDiff, binC, binV, intC, intV, strC, strV, unC, unV, AV.isI, AV.isB, AV.isS, AV.toI, AV.toK, AV.toS, allOut, o_b, o_i, o_s, o_np, o_pv, o_pe, o_ns, o_sl, o_nm, o_mp, o_nf, o_fn, o_ag, q_b, q_i, q_s, q_np, q_pv, q_pe, q_ns, q_sl, q_nm, q_mp, q_nf, q_fn, q_ag, Bool.and_true, Bool.and_self, Bool.true_and, AV.b.injEq, decide_eq_true_eq, decide_eq_false_iff_not, true_and, and_true, and_self, reduceCtorEq, imp_self, implies_true, forall_const, eq_self, ex_tp, ex_ag, List.getD_cons_zero, List.getD_cons_succ, List.length_cons, List.length_nil, Nat.reduceAdd, Nat.reduceLT, Nat.zero_add, bne_self_eq_false, decide_true, decide_false, eq_self, true_implies, false_implies, forall_const, Bool.true_eq_false, Bool.not_true, Bool.not_false, not_true_eq_false, not_false_eq_true, if_true, if_false, pickV, cond_true, cond_false, boolV, fillEC, fillE, List.replicate, List.set, Mem.newL, Mem.keep, Int.reduceToNat, Nat.reduceSub, List.drop_zero, Int.reduceLE, Int.le_refl, Nat.sub_zero, Mem.newL, Mem.newL, Mem.getL, Mem.hasL, lookL, setL, dropL, keepL, memN, la_faC, la_faV, la_ldC, la_ldX, la_stC, la_stM, partOf, partFits, setEl, setPart, Option.isSome_some, Option.getD_some, List.take_succ_cons, List.take_zero, List.drop_succ_cons, List.drop_zero, List.nil_append, List.cons_append, List.getD_cons_zero, List.getD_cons_succ, List.length_cons, List.length_nil, List.set_cons_zero, List.append_nil, List.drop_nil, List.take_nil, Nat.reduceAdd, Nat.reduceLT, Nat.reduceLeDiff, Nat.zero_add, Nat.add_zero, Nat.lt_add_one, Nat.le_refl, Nat.zero_le, Nat.zero_lt_succ, fillP, fillC, Nat.reduceLeDiff, lgAt, isRd, q0, q2, q3, q4, l1, l2, hlt, hL, ho, hone, p1, p2, p3, p4, toNat_nat, w9]
    exact ⟨l.length - (i + 1), by omega, i + 1, _, _, _, by omega, rfl, rfl, rfl, rfl⟩
  · simp -implicitDefEqProofs only [x_q, x_o, x_b, x_k, x_x, x_r, x_it, x_if, x_p, p_nil, p_on, p_off, p_mv, p_pk, p_bn, p_un, p_be, p_nl, p_eqa, p_ci, p_cbs, p_csb, p_ex, p_bd, p_fd, p_ix, p_ixa, p_ss, p_sl, p_sla, p_ln, p_lns, p_lnm, p_al, p_bx, p_lal, p_lbx, p_ld, p_st, p_fa, p_ia, p_iaa, p_bs, p_lbs, p_mk, p_ap, p_cp, p_cl, p_cv, p_mf, p_nc, p_mm, p_mkm, p_lk, p_mu, p_dl, p_rs, p_nx, cfC, lgPut, isOk, rv, rh, Bool.false_eq_true, d_nil, d_on, d_off, d_mv, d_pk, d_bn, d_un, d_be, d_nl, d_eqa, d_ci, d_cbs, d_csb, d_ex, d_bd, d_fd, d_ix, d_ixa, d_ss, d_sl, d_sla, d_ln, d_lns, d_lnm, d_al, d_bx, d_lal, d_lbx, d_ld, d_st, d_fa, d_ia, d_iaa, d_bs, d_lbs, d_mk, d_ap, d_cp, d_cl, d_cv, d_mf, d_nc, d_mm, d_mkm, d_lk, d_mu, d_dl, d_rs, d_nx, okO, vlO, mmO, dsO, putE, args, evT, evs, evO, look, kOps, kSeq, kBlk, keepE, reduceIte, Nat.reduceEqDiff, binC, binV, intC, intV, strC, strV, unC, unV, AV.isI, AV.isB, AV.isS, AV.toI, AV.toK, AV.toS, allOut, o_b, o_i, o_s, o_np, o_pv, o_pe, o_ns, o_sl, o_nm, o_mp, o_nf, o_fn, o_ag, q_b, q_i, q_s, q_np, q_pv, q_pe, q_ns, q_sl, q_nm, q_mp, q_nf, q_fn, q_ag, Bool.and_true, Bool.and_self, Bool.true_and, AV.b.injEq, decide_eq_true_eq, decide_eq_false_iff_not, true_and, and_true, and_self, reduceCtorEq, imp_self, implies_true, forall_const, eq_self, ex_tp, ex_ag, List.getD_cons_zero, List.getD_cons_succ, List.length_cons, List.length_nil, Nat.reduceAdd, Nat.reduceLT, Nat.zero_add, bne_self_eq_false, decide_true, decide_false, eq_self, true_implies, false_implies, forall_const, Bool.true_eq_false, Bool.not_true, Bool.not_false, not_true_eq_false, not_false_eq_true, if_true, if_false, pickV, cond_true, cond_false, boolV, fillEC, fillE, List.replicate, List.set, Mem.newL, Mem.keep, Int.reduceToNat, Nat.reduceSub, List.drop_zero, Int.reduceLE, Int.le_refl, Nat.sub_zero, Mem.newL, Mem.newL, Mem.getL, Mem.hasL, lookL, setL, dropL, keepL, memN, la_faC, la_faV, la_ldC, la_ldX, la_stC, la_stM, partOf, partFits, setEl, setPart, Option.isSome_some, Option.getD_some, List.take_succ_cons, List.take_zero, List.drop_succ_cons, List.drop_zero, List.nil_append, List.cons_append, List.getD_cons_zero, List.getD_cons_succ, List.length_cons, List.length_nil, List.set_cons_zero, List.append_nil, List.drop_nil, List.take_nil, Nat.reduceAdd, Nat.reduceLT, Nat.reduceLeDiff, Nat.zero_add, Nat.add_zero, Nat.lt_add_one, Nat.le_refl, Nat.zero_le, Nat.zero_lt_succ, fillP, fillC, Nat.reduceLeDiff, lgAt, isRd, q0, q2, q3, q4, l1, l2, hlt, hL, ho, hone, endK, rsC, rsV, resV]
    exact ⟨st, rfl⟩
theorem u8_ofInt (r : Nat) : IntKind.u8.wrap (r : Int) = ((UInt8.ofNat r).toNat : Int) := u8w r
theorem r_l01Bytes {id : Nat} {a : AV} {l : List UInt8} {n : Nat} {H : AH} (hN : T_l01Next C n_spec_l01Next) (h : Src H id a l) (hl : l.length ≤ 1099511627776) (hn : n ≤ 1000) :
    Runs C c_spec_l01Bytes [.pv id 0, .i .i64 n] H fun v H' => (∃ bs : List UInt8, v = .s bs ∧ bs.length = n) ∧ Src H' id a l ∧ Kp [id] H H' := by
  unfold Runs c_spec_l01Bytes
  simp -implicitDefEqProofs only [x_q, x_o, x_b, x_k, x_x, x_r, x_it, x_if, x_p, p_nil, p_on, p_off, p_mv, p_pk, p_bn, p_un, p_be, p_nl, p_eqa, p_ci, p_cbs, p_csb, p_ex, p_bd, p_fd, p_ix, p_ixa, p_ss, p_sl, p_sla, p_ln, p_lns, p_lnm, p_al, p_bx, p_lal, p_lbx, p_ld, p_st, p_fa, p_ia, p_iaa, p_bs, p_lbs, p_mk, p_ap, p_cp, p_cl, p_cv, p_mf, p_nc, p_mm, p_mkm, p_lk, p_mu, p_dl, p_rs, p_nx, cfC, lgPut, isOk, rv, rh, Bool.false_eq_true, d_nil, d_on, d_off, d_mv, d_pk, d_bn, d_un, d_be, d_nl, d_eqa, d_ci, d_cbs, d_csb, d_ex, d_bd, d_fd, d_ix, d_ixa, d_ss, d_sl, d_sla, d_ln, d_lns, d_lnm, d_al, d_bx, d_lal, d_lbx, d_ld, d_st, d_fa, d_ia, d_iaa, d_bs, d_lbs, d_mk, d_ap, d_cp, d_cl, d_cv, d_mf, d_nc, d_mm, d_mkm, d_lk, d_mu, d_dl, d_rs, d_nx, okO, vlO, mmO, dsO, putE, args, evT, evs, evO, look, kOps, kSeq, kBlk, keepE, reduceIte, Nat.reduceEqDiff, binC, binV, intC, intV, strC, strV, unC, unV, AV.isI, AV.isB, AV.isS, AV.toI, AV.toK, AV.toS, allOut, o_b, o_i, o_s, o_np, o_pv, o_pe, o_ns, o_sl, o_nm, o_mp, o_nf, o_fn, o_ag, q_b, q_i, q_s, q_np, q_pv, q_pe, q_ns, q_sl, q_nm, q_mp, q_nf, q_fn, q_ag, Bool.and_true, Bool.and_self, Bool.true_and, AV.b.injEq, decide_eq_true_eq, decide_eq_false_iff_not, true_and, and_true, and_self, reduceCtorEq, imp_self, implies_true, forall_const, eq_self, ex_tp, ex_ag, List.getD_cons_zero, List.getD_cons_succ, List.length_cons, List.length_nil, Nat.reduceAdd, Nat.reduceLT, Nat.zero_add, bne_self_eq_false, decide_true, decide_false, eq_self, true_implies, false_implies, forall_const, Bool.true_eq_false, Bool.not_true, Bool.not_false, not_true_eq_false, not_false_eq_true, if_true, if_false, pickV, cond_true, cond_false, boolV, fillEC, fillE, List.replicate, List.set, Mem.newL, Mem.keep, Int.reduceToNat, Nat.reduceSub, List.drop_zero, Int.reduceLE, Int.le_refl, Nat.sub_zero, Mem.newL, fillEC, fillE, List.replicate]
  have hid := h.lt
  refine exec_loop (fun m e M => ∃ (i : Nat) (bs : List UInt8) (o : AV) (H' : AH) (L : List Lv) (g : Nat), i ≤ n ∧ m = n - i ∧ look e 0 = .pv id 0 ∧ look e 1 = .i .i64 n ∧ look e 5 = o ∧ look e 6 = .i .i64 i ∧ M = ⟨L, g, H'⟩ ∧ bs.length = i ∧ Mb H' o bs ∧ Src H' id a l ∧ Kp [id] H H' ∧ ∀ j, j ∈ idA o → H.n ≤ j) ?_ (n := n)
    ⟨0, [], _, _, _, _, by omega, by omega, rfl, rfl, rfl, rfl, rfl, rfl, Mb.new2 (l := []) rfl, h.ext (.new _ _), .ext (.new _ _), fun j hj => by simp [idA, look] at hj; omega⟩
  rintro m e M ⟨i, bs, o, H', L, g, hi, rfl, q0, q1, q5, q6, rfl, hbl, hm, hs, hk, hid2⟩
  by_cases hlt : (i : Int) < n
  · obtain ⟨v, H1, k1, ⟨r, rfl, hr⟩, k3, k4⟩ := hN id a l 256 H' hs hl (by decide) (by decide)
    have hm1 : Mb H1 o bs := k4.mn hm fun j hj hh => by
      simp only [List.mem_singleton] at hh
      have := hid2 j hj
      omega
    obtain ⟨p1, o', H2, p2, p3, p4, p5, p6, p7, -⟩ := Mn.ap (by' := 1) hm1 (lit_src (t := 17) (g := g) (x := .i .u8 (UInt8.ofNat r).toNat) (L := dropL (keepL [0, 1, 5, 6] L) 17) (H := H1)) (by simp; omega)
    have w9 : IntKind.i64.wrap ((i : Int) + 1) = ((i + 1 : Nat) : Int) := by rw [w64 (by omega) (by omega)]; rfl
    have kp : Kp (idA o) H1 H2 := ⟨p5, p6⟩
    simp -implicitDefEqProofs only [x_q, x_o, x_b, x_k, x_x, x_r, x_it, x_if, x_p, p_nil, p_on, p_off, p_mv, p_pk, p_bn, p_un, p_be, p_nl, p_eqa, p_ci, p_cbs, p_csb, p_ex, p_bd, p_fd, p_ix, p_ixa, p_ss, p_sl, p_sla, p_ln, p_lns, p_lnm, p_al, p_bx, p_lal, p_lbx, p_ld, p_st, p_fa, p_ia, p_iaa, p_bs, p_lbs, p_mk, p_ap, p_cp, p_cl, p_cv, p_mf, p_nc, p_mm, p_mkm, p_lk, p_mu, p_dl, p_rs, p_nx, cfC, lgPut, isOk, rv, rh, Bool.false_eq_true, d_nil, d_on, d_off, d_mv, d_pk, d_bn, d_un, d_be, d_nl, d_eqa, d_ci, d_cbs, d_csb, d_ex, d_bd, d_fd, d_ix, d_ixa, d_ss, d_sl, d_sla, d_ln, d_lns, d_lnm, d_al, d_bx, d_lal, d_lbx, d_ld, d_st, d_fa, d_ia, d_iaa, d_bs, d_lbs, d_mk, d_ap, d_cp, d_cl, d_cv, d_mf, d_nc, d_mm, d_mkm, d_lk, d_mu, d_dl, d_rs, d_nx, okO, vlO, mmO, dsO, putE, args, evT, evs, evO, look, kOps, kSeq, kBlk, keepE, reduceIte, Nat.reduceEqDiff, binC, binV, intC, intV, strC, strV, unC, unV, AV.isI, AV.isB, AV.isS, AV.toI, AV.toK, AV.toS, allOut, o_b, o_i, o_s, o_np, o_pv, o_pe, o_ns, o_sl, o_nm, o_mp, o_nf, o_fn, o_ag, q_b, q_i, q_s, q_np, q_pv, q_pe, q_ns, q_sl, q_nm, q_mp, q_nf, q_fn, q_ag, Bool.and_true, Bool.and_self, Bool.true_and, AV.b.injEq, decide_eq_true_eq, decide_eq_false_iff_not, true_and, and_true, and_self, reduceCtorEq, imp_self, implies_true, forall_const, eq_self, ex_tp, ex_ag, List.getD_cons_zero, List.getD_cons_succ, List.length_cons, List.length_nil, Nat.reduceAdd, Nat.reduceLT, Nat.zero_add, bne_self_eq_false, decide_true, decide_false, eq_self, true_implies, false_implies, forall_const, Bool.true_eq_false, Bool.not_true, Bool.not_false, not_true_eq_false, not_false_eq_true, if_true, if_false, pickV, cond_true, cond_false, boolV, fillEC, fillE, List.replicate, List.set, Mem.newL, Mem.keep, Int.reduceToNat, Nat.reduceSub, List.drop_zero, Int.reduceLE, Int.le_refl, Nat.sub_zero, Mem.newL, q0, q1, q5, q6, hlt, k1, u8w, fillEC, fillE, List.replicate, List.set, p1, p2, p3, w9]
    refine ⟨n - (i + 1), by omega, i + 1, bs ++ [UInt8.ofNat r], o', H2, _, _, by omega, rfl, rfl, rfl, rfl, by simp [hbl], ?_, ?_, ?_, fun j hj => ?_⟩
    · unfold Mb; rw [enc_app]; exact p4
    · refine k3.kp kp (fun hh => ?_) fun j hj hh => ?_
      · have := hid2 _ hh; omega
      · have := hid2 j hh
        have := Sl.lt hs.by' j hj
        have hj2 := Sl.lt h.by' j hj
        omega
    · refine ⟨Nat.le_trans (hk.trans k4).n p5, fun j hj hn => ?_⟩
      rw [p6 j (Nat.lt_of_lt_of_le hj (hk.trans k4).n) fun hh => by have := hid2 j hh; omega]
      exact (hk.trans k4).at' j hj hn
    · rcases p7 j hj with hh | hh
      · exact hid2 j hh
      · have := (hk.trans k4).n; omega
  · obtain ⟨c1, c2⟩ := Byt.cbs hm.sl
    simp -implicitDefEqProofs only [x_q, x_o, x_b, x_k, x_x, x_r, x_it, x_if, x_p, p_nil, p_on, p_off, p_mv, p_pk, p_bn, p_un, p_be, p_nl, p_eqa, p_ci, p_cbs, p_csb, p_ex, p_bd, p_fd, p_ix, p_ixa, p_ss, p_sl, p_sla, p_ln, p_lns, p_lnm, p_al, p_bx, p_lal, p_lbx, p_ld, p_st, p_fa, p_ia, p_iaa, p_bs, p_lbs, p_mk, p_ap, p_cp, p_cl, p_cv, p_mf, p_nc, p_mm, p_mkm, p_lk, p_mu, p_dl, p_rs, p_nx, cfC, lgPut, isOk, rv, rh, Bool.false_eq_true, d_nil, d_on, d_off, d_mv, d_pk, d_bn, d_un, d_be, d_nl, d_eqa, d_ci, d_cbs, d_csb, d_ex, d_bd, d_fd, d_ix, d_ixa, d_ss, d_sl, d_sla, d_ln, d_lns, d_lnm, d_al, d_bx, d_lal, d_lbx, d_ld, d_st, d_fa, d_ia, d_iaa, d_bs, d_lbs, d_mk, d_ap, d_cp, d_cl, d_cv, d_mf, d_nc, d_mm, d_mkm, d_lk, d_mu, d_dl, d_rs, d_nx, okO, vlO, mmO, dsO, putE, args, evT, evs, evO, look, kOps, kSeq, kBlk, keepE, reduceIte, Nat.reduceEqDiff, binC, binV, intC, intV, strC, strV, unC, unV, AV.isI, AV.isB, AV.isS, AV.toI, AV.toK, AV.toS, allOut, o_b, o_i, o_s, o_np, o_pv, o_pe, o_ns, o_sl, o_nm, o_mp, o_nf, o_fn, o_ag, q_b, q_i, q_s, q_np, q_pv, q_pe, q_ns, q_sl, q_nm, q_mp, q_nf, q_fn, q_ag, Bool.and_true, Bool.and_self, Bool.true_and, AV.b.injEq, decide_eq_true_eq, decide_eq_false_iff_not, true_and, and_true, and_self, reduceCtorEq, imp_self, implies_true, forall_const, eq_self, ex_tp, ex_ag, List.getD_cons_zero, List.getD_cons_succ, List.length_cons, List.length_nil, Nat.reduceAdd, Nat.reduceLT, Nat.zero_add, bne_self_eq_false, decide_true, decide_false, eq_self, true_implies, false_implies, forall_const, Bool.true_eq_false, Bool.not_true, Bool.not_false, not_true_eq_false, not_false_eq_true, if_true, if_false, pickV, cond_true, cond_false, boolV, fillEC, fillE, List.replicate, List.set, Mem.newL, Mem.keep, Int.reduceToNat, Nat.reduceSub, List.drop_zero, Int.reduceLE, Int.le_refl, Nat.sub_zero, Mem.newL, q0, q1, q5, q6, hlt, c1, c2, endK, rsC, rsV, resV]
    exact ⟨⟨bs, rfl, by omega⟩, hs, hk⟩
theorem r_drawOptions {id : Nat} {a : AV} {l : List UInt8} {H : AH} (hN : T_l01Next C n_spec_l01Next) (hB : T_l01Bytes C n_spec_l01Bytes) (h : Src H id a l) (hl : l.length ≤ 1099511627776) :
    Runs C c_spec_l13DrawOptions [.pv id 0] H fun v H' => (∃ os, Mx H' eO v os ∧ os.length + tot' wO os ≤ 100) ∧ Src H' id a l ∧ Kp [id] H H' ∧ ∀ i, i ∈ idA v → H.n ≤ i := by
  unfold Runs c_spec_l13DrawOptions
  have hid := h.lt
  obtain ⟨v0, H0, k0, ⟨n, rfl, hn⟩, s0, f0⟩ := hN id a l 3 _ (h.ext (Ext.new H (.arr true 0 2 []))) hl (by decide) (by decide)
  have m0 : Mx H0 eO (.sl H.n 0 0) [] := f0.mn (Mn.own (xs := []) (by simp) new_at) fun j hj hh => by
    simp only [idA, List.mem_singleton] at hj hh
    omega
  simp -implicitDefEqProofs only [x_q, x_o, x_b, x_k, x_x, x_r, x_it, x_if, x_p, p_nil, p_on, p_off, p_mv, p_pk, p_bn, p_un, p_be, p_nl, p_eqa, p_ci, p_cbs, p_csb, p_ex, p_bd, p_fd, p_ix, p_ixa, p_ss, p_sl, p_sla, p_ln, p_lns, p_lnm, p_al, p_bx, p_lal, p_lbx, p_ld, p_st, p_fa, p_ia, p_iaa, p_bs, p_lbs, p_mk, p_ap, p_cp, p_cl, p_cv, p_mf, p_nc, p_mm, p_mkm, p_lk, p_mu, p_dl, p_rs, p_nx, cfC, lgPut, isOk, rv, rh, Bool.false_eq_true, d_nil, d_on, d_off, d_mv, d_pk, d_bn, d_un, d_be, d_nl, d_eqa, d_ci, d_cbs, d_csb, d_ex, d_bd, d_fd, d_ix, d_ixa, d_ss, d_sl, d_sla, d_ln, d_lns, d_lnm, d_al, d_bx, d_lal, d_lbx, d_ld, d_st, d_fa, d_ia, d_iaa, d_bs, d_lbs, d_mk, d_ap, d_cp, d_cl, d_cv, d_mf, d_nc, d_mm, d_mkm, d_lk, d_mu, d_dl, d_rs, d_nx, okO, vlO, mmO, dsO, putE, args, evT, evs, evO, look, kOps, kSeq, kBlk, keepE, reduceIte, Nat.reduceEqDiff, binC, binV, intC, intV, strC, strV, unC, unV, AV.isI, AV.isB, AV.isS, AV.toI, AV.toK, AV.toS, allOut, o_b, o_i, o_s, o_np, o_pv, o_pe, o_ns, o_sl, o_nm, o_mp, o_nf, o_fn, o_ag, q_b, q_i, q_s, q_np, q_pv, q_pe, q_ns, q_sl, q_nm, q_mp, q_nf, q_fn, q_ag, Bool.and_true, Bool.and_self, Bool.true_and, AV.b.injEq, decide_eq_true_eq, decide_eq_false_iff_not, true_and, and_true, and_self, reduceCtorEq, imp_self, implies_true, forall_const, eq_self, ex_tp, ex_ag, List.getD_cons_zero, List.getD_cons_succ, List.length_cons, List.length_nil, Nat.reduceAdd, Nat.reduceLT, Nat.zero_add, bne_self_eq_false, decide_true, decide_false, eq_self, true_implies, false_implies, forall_const, Bool.true_eq_false, Bool.not_true, Bool.not_false, not_true_eq_false, not_false_eq_true, if_true, if_false, pickV, cond_true, cond_false, boolV, fillEC, fillE, List.replicate, List.set, Mem.newL, Mem.keep, Int.reduceToNat, Nat.reduceSub, List.drop_zero, Int.reduceLE, Int.le_refl, Nat.sub_zero, Mem.newL, fillEC, fillE, List.replicate, k0]
  have fk : Kp [id] H H0 := (Kp.ext (Ext.new H (.arr true 0 2 []))).trans f0
  refine exec_loop (fun m e M => ∃ (i : Nat) (os : List Opt) (o : AV) (H' : AH) (L : List Lv) (g : Nat), i ≤ n ∧ m = n - i ∧ look e 0 = .pv id 0 ∧ look e 4 = .i .i64 n ∧ look e 3 = o ∧ look e 5 = .i .i64 i ∧ M = ⟨L, g, H'⟩ ∧ os.length = i ∧ tot' wO os ≤ 5 * i ∧ Mx H' eO o os ∧ Src H' id a l ∧ Kp [id] H H' ∧ ∀ j, j ∈ idA o → H.n ≤ j) ?_ (n := n)
    ⟨0, [], _, H0, _, _, by omega, by omega, rfl, rfl, rfl, rfl, rfl, rfl, by simp [tot'], m0, s0, fk, fun j hj => by simp [idA, look] at hj; omega⟩
  rintro m e M ⟨i, os, o, H', L, g, hi, rfl, q0, q4, q3, q5, rfl, hol, htot, hm, hs, hk, hid2⟩
  have ho := hm.sl.out
  by_cases hlt : (i : Int) < n
  · obtain ⟨v1, H1, k1, ⟨r, rfl, hr⟩, k3, k4⟩ := hN id a l 20 H' hs hl (by decide) (by decide)
    obtain ⟨v2, H2, k5, ⟨r2, rfl, hr2⟩, k7, k8⟩ := hN id a l 5 H1 k3 hl (by decide) (by decide)
    obtain ⟨v3, H3, k9, ⟨bs, rfl, hbs⟩, k11, k12⟩ := hB id a l r2 H2 k7 hl (by omega)
    have kk : Kp [id] H' H3 := (k4.trans k8).trans k12
    have hm1 : Mx H3 eO o os := kk.mn hm fun j hj hh => by
      simp only [List.mem_singleton] at hh
      have := hid2 j hj
      omega
    have hsrc : srcV ⟨⟨22, g, 0, [.ag [.i .i64 r, .s bs]]⟩ :: dropL (keepL [0, 3, 4, 5] L) 22, g + 1, H3⟩ (.ll 22 g 2 1) = [eO.v ((r : Int), bs)] ∧ srcC ⟨⟨22, g, 0, [.ag [.i .i64 r, .s bs]]⟩ :: dropL (keepL [0, 3, 4, 5] L) 22, g + 1, H3⟩ 2 (.ll 22 g 2 1) := by
      simp [srcV, srcC, Mem.getL, Mem.hasL, lookL, eO, Enc.v]
    obtain ⟨p1, o', H4, p2, p3, p4, p5, p6, p7, -⟩ := Mn.ap (z := 2) (by' := 24) hm1 hsrc (by simp; omega)
    have w9 : IntKind.i64.wrap ((i : Int) + 1) = ((i + 1 : Nat) : Int) := by rw [w64 (by omega) (by omega)]; rfl
    have kp : Kp (idA o) H3 H4 := ⟨p5, p6⟩
    simp -implicitDefEqProofs only [x_q, x_o, x_b, x_k, x_x, x_r, x_it, x_if, x_p, p_nil, p_on, p_off, p_mv, p_pk, p_bn, p_un, p_be, p_nl, p_eqa, p_ci, p_cbs, p_csb, p_ex, p_bd, p_fd, p_ix, p_ixa, p_ss, p_sl, p_sla, p_ln, p_lns, p_lnm, p_al, p_bx, p_lal, p_lbx, p_ld, p_st, p_fa, p_ia, p_iaa, p_bs, p_lbs, p_mk, p_ap, p_cp, p_cl, p_cv, p_mf, p_nc, p_mm, p_mkm, p_lk, p_mu, p_dl, p_rs, p_nx, cfC, lgPut, isOk, rv, rh, Bool.false_eq_true, d_nil, d_on, d_off, d_mv, d_pk, d_bn, d_un, d_be, d_nl, d_eqa, d_ci, d_cbs, d_csb, d_ex, d_bd, d_fd, d_ix, d_ixa, d_ss, d_sl, d_sla, d_ln, d_lns, d_lnm, d_al, d_bx, d_lal, d_lbx, d_ld, d_st, d_fa, d_ia, d_iaa, d_bs, d_lbs, d_mk, d_ap, d_cp, d_cl, d_cv, d_mf, d_nc, d_mm, d_mkm, d_lk, d_mu, d_dl, d_rs, d_nx, okO, vlO, mmO, dsO, putE, args, evT, evs, evO, look, kOps, kSeq, kBlk, keepE, reduceIte, Nat.reduceEqDiff, binC, binV, intC, intV, strC, strV, unC, unV, AV.isI, AV.isB, AV.isS, AV.toI, AV.toK, AV.toS, allOut, o_b, o_i, o_s, o_np, o_pv, o_pe, o_ns, o_sl, o_nm, o_mp, o_nf, o_fn, o_ag, q_b, q_i, q_s, q_np, q_pv, q_pe, q_ns, q_sl, q_nm, q_mp, q_nf, q_fn, q_ag, Bool.and_true, Bool.and_self, Bool.true_and, AV.b.injEq, decide_eq_true_eq, decide_eq_false_iff_not, true_and, and_true, and_self, reduceCtorEq, imp_self, implies_true, forall_const, eq_self, ex_tp, ex_ag, List.getD_cons_zero, List.getD_cons_succ, List.length_cons, List.length_nil, Nat.reduceAdd, Nat.reduceLT, Nat.zero_add, bne_self_eq_false, decide_true, decide_false, eq_self, true_implies, false_implies, forall_const, Bool.true_eq_false, Bool.not_true, Bool.not_false, not_true_eq_false, not_false_eq_true, if_true, if_false, pickV, cond_true, cond_false, boolV, fillEC, fillE, List.replicate, List.set, Mem.newL, Mem.keep, Int.reduceToNat, Nat.reduceSub, List.drop_zero, Int.reduceLE, Int.le_refl, Nat.sub_zero, Mem.newL, q0, q3, q4, q5, hlt, k1, k5, k9, fillP, fillC, setPart, fillEC, fillE, List.replicate, List.set, List.take_zero, List.nil_append, List.cons_append, List.drop_succ_cons, List.take_succ_cons, List.append_nil, List.drop_nil, List.drop_zero, Nat.reduceLeDiff, w9]
    simp -implicitDefEqProofs only [x_q, x_o, x_b, x_k, x_x, x_r, x_it, x_if, x_p, p_nil, p_on, p_off, p_mv, p_pk, p_bn, p_un, p_be, p_nl, p_eqa, p_ci, p_cbs, p_csb, p_ex, p_bd, p_fd, p_ix, p_ixa, p_ss, p_sl, p_sla, p_ln, p_lns, p_lnm, p_al, p_bx, p_lal, p_lbx, p_ld, p_st, p_fa, p_ia, p_iaa, p_bs, p_lbs, p_mk, p_ap, p_cp, p_cl, p_cv, p_mf, p_nc, p_mm, p_mkm, p_lk, p_mu, p_dl, p_rs, p_nx, cfC, lgPut, isOk, rv, rh, Bool.false_eq_true, d_nil, d_on, d_off, d_mv, d_pk, d_bn, d_un, d_be, d_nl, d_eqa, d_ci, d_cbs, d_csb, d_ex, d_bd, d_fd, d_ix, d_ixa, d_ss, d_sl, d_sla, d_ln, d_lns, d_lnm, d_al, d_bx, d_lal, d_lbx, d_ld, d_st, d_fa, d_ia, d_iaa, d_bs, d_lbs, d_mk, d_ap, d_cp, d_cl, d_cv, d_mf, d_nc, d_mm, d_mkm, d_lk, d_mu, d_dl, d_rs, d_nx, okO, vlO, mmO, dsO, putE, args, evT, evs, evO, look, kOps, kSeq, kBlk, keepE, reduceIte, Nat.reduceEqDiff, binC, binV, intC, intV, strC, strV, unC, unV, AV.isI, AV.isB, AV.isS, AV.toI, AV.toK, AV.toS, allOut, o_b, o_i, o_s, o_np, o_pv, o_pe, o_ns, o_sl, o_nm, o_mp, o_nf, o_fn, o_ag, q_b, q_i, q_s, q_np, q_pv, q_pe, q_ns, q_sl, q_nm, q_mp, q_nf, q_fn, q_ag, Bool.and_true, Bool.and_self, Bool.true_and, AV.b.injEq, decide_eq_true_eq, decide_eq_false_iff_not, true_and, and_true, and_self, reduceCtorEq, imp_self, implies_true, forall_const, eq_self, ex_tp, ex_ag, List.getD_cons_zero, List.getD_cons_succ, List.length_cons, List.length_nil, Nat.reduceAdd, Nat.reduceLT, Nat.zero_add, bne_self_eq_false, p1, p2, p3]
    refine ⟨n - (i + 1), by omega, i + 1, os ++ [((r : Int), bs)], o', H4, _, _, by omega, rfl, rfl, rfl, rfl, by simp [hol], ?_, ?_, ?_, ?_, fun j hj => ?_⟩
    · rw [tot_app']; simp [tot', wO]; omega
    · have : Mn H4 2 o' (os.map eO.v ++ [eO.v ((r : Int), bs)]) := p4
      unfold Mx; rw [List.map_append]; exact this
    · refine k11.kp kp (fun hh => ?_) fun j hj hh => ?_
      · have := hid2 _ hh; omega
      · have := hid2 j hh
        have hj2 := Sl.lt h.by' j hj
        omega
    · refine ⟨Nat.le_trans (hk.trans kk).n p5, fun j hj hn => ?_⟩
      rw [p6 j (Nat.lt_of_lt_of_le hj (hk.trans kk).n) fun hh => by have := hid2 j hh; omega]
      exact (hk.trans kk).at' j hj hn
    · rcases p7 j hj with hh | hh
      · exact hid2 j hh
      · have := (hk.trans kk).n; omega
  · simp -implicitDefEqProofs only [x_q, x_o, x_b, x_k, x_x, x_r, x_it, x_if, x_p, p_nil, p_on, p_off, p_mv, p_pk, p_bn, p_un, p_be, p_nl, p_eqa, p_ci, p_cbs, p_csb, p_ex, p_bd, p_fd, p_ix, p_ixa, p_ss, p_sl, p_sla, p_ln, p_lns, p_lnm, p_al, p_bx, p_lal, p_lbx, p_ld, p_st, p_fa, p_ia, p_iaa, p_bs, p_lbs, p_mk, p_ap, p_cp, p_cl, p_cv, p_mf, p_nc, p_mm, p_mkm, p_lk, p_mu, p_dl, p_rs, p_nx, cfC, lgPut, isOk, rv, rh, Bool.false_eq_true, d_nil, d_on, d_off, d_mv, d_pk, d_bn, d_un, d_be, d_nl, d_eqa, d_ci, d_cbs, d_csb, d_ex, d_bd, d_fd, d_ix, d_ixa, d_ss, d_sl, d_sla, d_ln, d_lns, d_lnm, d_al, d_bx, d_lal, d_lbx, d_ld, d_st, d_fa, d_ia, d_iaa, d_bs, d_lbs, d_mk, d_ap, d_cp, d_cl, d_cv, d_mf, d_nc, d_mm, d_mkm, d_lk, d_mu, d_dl, d_rs, d_nx, okO, vlO, mmO, dsO, putE, args, evT, evs, evO, look, kOps, kSeq, kBlk, keepE, reduceIte, Nat.reduceEqDiff, binC, binV, intC, intV, strC, strV, unC, unV, AV.isI, AV.isB, AV.isS, AV.toI, AV.toK, AV.toS, allOut, o_b, o_i, o_s, o_np, o_pv, o_pe, o_ns, o_sl, o_nm, o_mp, o_nf, o_fn, o_ag, q_b, q_i, q_s, q_np, q_pv, q_pe, q_ns, q_sl, q_nm, q_mp, q_nf, q_fn, q_ag, Bool.and_true, Bool.and_self, Bool.true_and, AV.b.injEq, decide_eq_true_eq, decide_eq_false_iff_not, true_and, and_true, and_self, reduceCtorEq, imp_self, implies_true, forall_const, eq_self, ex_tp, ex_ag, List.getD_cons_zero, List.getD_cons_succ, List.length_cons, List.length_nil, Nat.reduceAdd, Nat.reduceLT, Nat.zero_add, bne_self_eq_false, decide_true, decide_false, eq_self, true_implies, false_implies, forall_const, Bool.true_eq_false, Bool.not_true, Bool.not_false, not_true_eq_false, not_false_eq_true, if_true, if_false, pickV, cond_true, cond_false, boolV, fillEC, fillE, List.replicate, List.set, Mem.newL, Mem.keep, Int.reduceToNat, Nat.reduceSub, List.drop_zero, Int.reduceLE, Int.le_refl, Nat.sub_zero, Mem.newL, q0, q3, q4, q5, hlt, ho, endK, rsC, rsV, resV]
    exact ⟨⟨os, hm, by omega⟩, hs, hk, hid2⟩
end
end Go.Vm

/- Drawn records of a sender: whatever is drawn, it is of bounded size. -/
namespace Go.Vm
set_option linter.unusedVariables false
set_option linter.unusedSimpArgs false
def DrawPost (H : AH) (v : AV) (H' : AH) : Prop := ∃ (s c fl : Int) (ov : AV) (os : List Opt), v = .tp [.i .i64 s, .i .i64 c, .i .i64 fl, ov] ∧ Sx H' eO ov os ∧ os.length + tot' wO os ≤ 1048576 ∧ Ext H H'
def T_draw (C : Tab) (f : Nat) : Prop := ∀ (a : AV) (l : List UInt8) (H : AH), Byt H a l → l.length ≤ 1099511627776 → ∃ v H', C f [a] H = some (v, H') ∧ DrawPost H v H'
theorem rep_enc (n : Nat) : List.replicate n (AV.i .u8 0) = encB (List.replicate n 0) := by simp [encB]
theorem lit_srcO {t g : Nat} {x : Opt} {L : List Lv} {H : AH} : srcV ⟨⟨t, g, 0, [.ag [.i .i64 x.1, .s x.2]]⟩ :: L, g + 1, H⟩ (.ll t g 2 1) = [eO.v x] ∧ srcC ⟨⟨t, g, 0, [.ag [.i .i64 x.1, .s x.2]]⟩ :: L, g + 1, H⟩ 2 (.ll t g 2 1) := by
  simp [srcV, srcC, Mem.getL, Mem.hasL, lookL, eO, Enc.v]
section
variable {C : Tab}
theorem r_draw {a : AV} {l : List UInt8} {H : AH} (hB : T_l01Begin C n_spec_l01Begin) (hN : T_l01Next C n_spec_l01Next) (hO : T_drawOptions C n_spec_l13DrawOptions) (h : Byt H a l) (hl : l.length ≤ 1099511627776) :
    Runs C c_spec_DrawEdnsRecord [a] H (DrawPost H) := by
  unfold Runs c_spec_DrawEdnsRecord
  obtain ⟨v0, H0, k0, ⟨st, rfl⟩, rfl⟩ := hB a l _ h hl
  have hout := h.out
  have hone := h.one
  have ob0 : Obj1 (H0.new (.arr true 0 3 [.ag [.ns, .i .i64 0, .i .u64 0]])) H0.n [.ns, .i .i64 0, .i .u64 0] := Obj1.new (cs := [.ns, .i .i64 0, .i .u64 0])
  have hst : (∀ (L : List Lv) (g : Nat), stC ⟨L, g, H0.new (.arr true 0 3 [.ag [.ns, .i .i64 0, .i .u64 0]])⟩ (.ag [a, .i .i64 0, .i .u64 st]) (.pv H0.n 0)) ∧ ∀ (L : List Lv) (g : Nat), stM ⟨L, g, H0.new (.arr true 0 3 [.ag [.ns, .i .i64 0, .i .u64 0]])⟩ (.ag [a, .i .i64 0, .i .u64 st]) (.pv H0.n 0) = ⟨L, g, (H0.new (.arr true 0 3 [.ag [.ns, .i .i64 0, .i .u64 0]])).set H0.n (.arr true 0 3 [.ag [a, .i .i64 0, .i .u64 st]])⟩ := by
    refine ⟨fun L g => ?_, fun L g => ?_⟩
    · simp only [stC, new_at]
      exact ⟨trivial, trivial, rfl, Nat.le_refl _⟩
    · simp only [stM, new_at]
      rfl
  obtain ⟨st1, st2⟩ := hst
  have e1 : Ext H0 ((H0.new (.arr true 0 3 [.ag [.ns, .i .i64 0, .i .u64 0]])).set H0.n (.arr true 0 3 [.ag [a, .i .i64 0, .i .u64 st]])) :=
    ⟨by simp [AH.set], fun i hi => by rw [set_ne (by omega), new_old hi]⟩
  have s1 : Src ((H0.new (.arr true 0 3 [.ag [.ns, .i .i64 0, .i .u64 0]])).set H0.n (.arr true 0 3 [.ag [a, .i .i64 0, .i .u64 st]])) H0.n a l :=
    ⟨⟨0, st, ⟨by simp [AH.set], set_at⟩, by omega, by omega⟩, Sl.ext h e1, fun hh => by have := Sl.lt h _ hh; omega⟩
  generalize (H0.new (.arr true 0 3 [.ag [.ns, .i .i64 0, .i .u64 0]])).set H0.n (.arr true 0 3 [.ag [a, .i .i64 0, .i .u64 st]]) = H1 at st1 st2 e1 s1
  obtain ⟨v2, H2, k2, ⟨r2, rfl, b2⟩, s2, f2⟩ := hN H0.n a l 65536 H1 s1 hl (by decide) (by decide)
  obtain ⟨v3, H3, k3, ⟨r3, rfl, b3⟩, s3, f3⟩ := hN H0.n a l 256 H2 s2 hl (by decide) (by decide)
  obtain ⟨v4, H4, k4, ⟨r4, rfl, b4⟩, s4, f4⟩ := hN H0.n a l 65536 H3 s3 hl (by decide) (by decide)
  obtain ⟨ov, H5, k5, ⟨os, m5, t5⟩, s5, f5, i5⟩ := hO H0.n a l H4 s4 hl
  have hid := s4.lt
  obtain ⟨v6, H6, k6, ⟨r, rfl, b6⟩, s6, f6⟩ := hN H0.n a l 16 H5 s5 hl (by decide) (by decide)
  have m6 : Mx H6 eO ov os := f6.mn m5 fun j hj hh => by
    simp only [List.mem_singleton] at hh
    have := i5 j hj
    omega
  have e6 : Ext H0 H6 := Kp.put e1 ((((f2.trans f3).trans f4).trans f5).trans f6) (fun i hi => by simp only [List.mem_singleton] at hi; omega)
  have i6 : ∀ i, i ∈ idA ov → H0.n ≤ i := fun i hi => by have := i5 i hi; omega
  have oo := m6.sl.out
  clear s1 s2 s3 s4 s5 f2 f3 f4 f5 f6 m5 e1 ob0
  have hne : ∀ k : Nat, r ≠ k → ¬ (r : Int) = k := fun k hk h => hk (by omega)
  by_cases r0 : r = 0
  · subst r0
    simp -implicitDefEqProofs only [x_q, x_o, x_b, x_k, x_x, x_r, x_it, x_if, x_p, p_nil, p_on, p_off, p_mv, p_pk, p_bn, p_un, p_be, p_nl, p_eqa, p_ci, p_cbs, p_csb, p_ex, p_bd, p_fd, p_ix, p_ixa, p_ss, p_sl, p_sla, p_ln, p_lns, p_lnm, p_al, p_bx, p_lal, p_lbx, p_ld, p_st, p_fa, p_ia, p_iaa, p_bs, p_lbs, p_mk, p_ap, p_cp, p_cl, p_cv, p_mf, p_nc, p_mm, p_mkm, p_lk, p_mu, p_dl, p_rs, p_nx, cfC, lgPut, isOk, rv, rh, Bool.false_eq_true, d_nil, d_on, d_off, d_mv, d_pk, d_bn, d_un, d_be, d_nl, d_eqa, d_ci, d_cbs, d_csb, d_ex, d_bd, d_fd, d_ix, d_ixa, d_ss, d_sl, d_sla, d_ln, d_lns, d_lnm, d_al, d_bx, d_lal, d_lbx, d_ld, d_st, d_fa, d_ia, d_iaa, d_bs, d_lbs, d_mk, d_ap, d_cp, d_cl, d_cv, d_mf, d_nc, d_mm, d_mkm, d_lk, d_mu, d_dl, d_rs, d_nx, okO, vlO, mmO, dsO, putE, args, evT, evs, evO, look, kOps, kSeq, kBlk, keepE, reduceIte, Nat.reduceEqDiff, binC, binV, intC, intV, strC, strV, unC, unV, AV.isI, AV.isB, AV.isS, AV.toI, AV.toK, AV.toS, allOut, o_b, o_i, o_s, o_np, o_pv, o_pe, o_ns, o_sl, o_nm, o_mp, o_nf, o_fn, o_ag, q_b, q_i, q_s, q_np, q_pv, q_pe, q_ns, q_sl, q_nm, q_mp, q_nf, q_fn, q_ag, Bool.and_true, Bool.and_self, Bool.true_and, AV.b.injEq, decide_eq_true_eq, decide_eq_false_iff_not, true_and, and_true, and_self, reduceCtorEq, imp_self, implies_true, forall_const, eq_self, ex_tp, ex_ag, List.getD_cons_zero, List.getD_cons_succ, List.length_cons, List.length_nil, Nat.reduceAdd, Nat.reduceLT, Nat.zero_add, bne_self_eq_false, decide_true, decide_false, eq_self, true_implies, false_implies, forall_const, Bool.true_eq_false, Bool.not_true, Bool.not_false, not_true_eq_false, not_false_eq_true, if_true, if_false, pickV, cond_true, cond_false, boolV, fillEC, fillE, List.replicate, List.set, Mem.newL, Mem.keep, Int.reduceToNat, Nat.reduceSub, List.drop_zero, Int.reduceLE, Int.le_refl, Nat.sub_zero, Mem.newL, Mem.newL, Mem.getL, Mem.hasL, lookL, setL, dropL, keepL, memN, la_faC, la_faV, la_ldC, la_ldX, la_stC, la_stM, partOf, partFits, setEl, setPart, Option.isSome_some, Option.getD_some, List.take_succ_cons, List.take_zero, List.drop_succ_cons, List.drop_zero, List.nil_append, List.cons_append, List.getD_cons_zero, List.getD_cons_succ, List.length_cons, List.length_nil, List.set_cons_zero, List.append_nil, List.drop_nil, List.take_nil, Nat.reduceAdd, Nat.reduceLT, Nat.reduceLeDiff, Nat.zero_add, Nat.add_zero, Nat.lt_add_one, Nat.le_refl, Nat.zero_le, Nat.zero_lt_succ, fillP, fillC, Nat.reduceLeDiff, lgAt, isRd, pv_faC, pv_faV, k0, st1, st2, k2, k3, k4, k5, k6, hout, hone, oo, Int.ofNat_eq_natCast, Int.natCast_zero, endK, rsC, rsV, resV]
    exact ⟨_, _, _, _, os, rfl, m6.sl, by omega, e6⟩
  by_cases r1 : r = 1
  · subst r1
    simp -implicitDefEqProofs only [x_q, x_o, x_b, x_k, x_x, x_r, x_it, x_if, x_p, p_nil, p_on, p_off, p_mv, p_pk, p_bn, p_un, p_be, p_nl, p_eqa, p_ci, p_cbs, p_csb, p_ex, p_bd, p_fd, p_ix, p_ixa, p_ss, p_sl, p_sla, p_ln, p_lns, p_lnm, p_al, p_bx, p_lal, p_lbx, p_ld, p_st, p_fa, p_ia, p_iaa, p_bs, p_lbs, p_mk, p_ap, p_cp, p_cl, p_cv, p_mf, p_nc, p_mm, p_mkm, p_lk, p_mu, p_dl, p_rs, p_nx, cfC, lgPut, isOk, rv, rh, Bool.false_eq_true, d_nil, d_on, d_off, d_mv, d_pk, d_bn, d_un, d_be, d_nl, d_eqa, d_ci, d_cbs, d_csb, d_ex, d_bd, d_fd, d_ix, d_ixa, d_ss, d_sl, d_sla, d_ln, d_lns, d_lnm, d_al, d_bx, d_lal, d_lbx, d_ld, d_st, d_fa, d_ia, d_iaa, d_bs, d_lbs, d_mk, d_ap, d_cp, d_cl, d_cv, d_mf, d_nc, d_mm, d_mkm, d_lk, d_mu, d_dl, d_rs, d_nx, okO, vlO, mmO, dsO, putE, args, evT, evs, evO, look, kOps, kSeq, kBlk, keepE, reduceIte, Nat.reduceEqDiff, binC, binV, intC, intV, strC, strV, unC, unV, AV.isI, AV.isB, AV.isS, AV.toI, AV.toK, AV.toS, allOut, o_b, o_i, o_s, o_np, o_pv, o_pe, o_ns, o_sl, o_nm, o_mp, o_nf, o_fn, o_ag, q_b, q_i, q_s, q_np, q_pv, q_pe, q_ns, q_sl, q_nm, q_mp, q_nf, q_fn, q_ag, Bool.and_true, Bool.and_self, Bool.true_and, AV.b.injEq, decide_eq_true_eq, decide_eq_false_iff_not, true_and, and_true, and_self, reduceCtorEq, imp_self, implies_true, forall_const, eq_self, ex_tp, ex_ag, List.getD_cons_zero, List.getD_cons_succ, List.length_cons, List.length_nil, Nat.reduceAdd, Nat.reduceLT, Nat.zero_add, bne_self_eq_false, decide_true, decide_false, eq_self, true_implies, false_implies, forall_const, Bool.true_eq_false, Bool.not_true, Bool.not_false, not_true_eq_false, not_false_eq_true, if_true, if_false, pickV, cond_true, cond_false, boolV, fillEC, fillE, List.replicate, List.set, Mem.newL, Mem.keep, Int.reduceToNat, Nat.reduceSub, List.drop_zero, Int.reduceLE, Int.le_refl, Nat.sub_zero, Mem.newL, Mem.newL, Mem.getL, Mem.hasL, lookL, setL, dropL, keepL, memN, la_faC, la_faV, la_ldC, la_ldX, la_stC, la_stM, partOf, partFits, setEl, setPart, Option.isSome_some, Option.getD_some, List.take_succ_cons, List.take_zero, List.drop_succ_cons, List.drop_zero, List.nil_append, List.cons_append, List.getD_cons_zero, List.getD_cons_succ, List.length_cons, List.length_nil, List.set_cons_zero, List.append_nil, List.drop_nil, List.take_nil, Nat.reduceAdd, Nat.reduceLT, Nat.reduceLeDiff, Nat.zero_add, Nat.add_zero, Nat.lt_add_one, Nat.le_refl, Nat.zero_le, Nat.zero_lt_succ, fillP, fillC, Nat.reduceLeDiff, lgAt, isRd, pv_faC, pv_faV, k0, st1, st2, k2, k3, k4, k5, k6, hout, hone, oo, show ((1 : Nat) : Int) = 1 from rfl, Int.reduceEq, endK, rsC, rsV, resV]
    exact ⟨_, _, _, _, os, rfl, m6.sl, by omega, e6⟩
  by_cases r2 : r = 2
  · subst r2
    simp -implicitDefEqProofs only [x_q, x_o, x_b, x_k, x_x, x_r, x_it, x_if, x_p, p_nil, p_on, p_off, p_mv, p_pk, p_bn, p_un, p_be, p_nl, p_eqa, p_ci, p_cbs, p_csb, p_ex, p_bd, p_fd, p_ix, p_ixa, p_ss, p_sl, p_sla, p_ln, p_lns, p_lnm, p_al, p_bx, p_lal, p_lbx, p_ld, p_st, p_fa, p_ia, p_iaa, p_bs, p_lbs, p_mk, p_ap, p_cp, p_cl, p_cv, p_mf, p_nc, p_mm, p_mkm, p_lk, p_mu, p_dl, p_rs, p_nx, cfC, lgPut, isOk, rv, rh, Bool.false_eq_true, d_nil, d_on, d_off, d_mv, d_pk, d_bn, d_un, d_be, d_nl, d_eqa, d_ci, d_cbs, d_csb, d_ex, d_bd, d_fd, d_ix, d_ixa, d_ss, d_sl, d_sla, d_ln, d_lns, d_lnm, d_al, d_bx, d_lal, d_lbx, d_ld, d_st, d_fa, d_ia, d_iaa, d_bs, d_lbs, d_mk, d_ap, d_cp, d_cl, d_cv, d_mf, d_nc, d_mm, d_mkm, d_lk, d_mu, d_dl, d_rs, d_nx, okO, vlO, mmO, dsO, putE, args, evT, evs, evO, look, kOps, kSeq, kBlk, keepE, reduceIte, Nat.reduceEqDiff, binC, binV, intC, intV, strC, strV, unC, unV, AV.isI, AV.isB, AV.isS, AV.toI, AV.toK, AV.toS, allOut, o_b, o_i, o_s, o_np, o_pv, o_pe, o_ns, o_sl, o_nm, o_mp, o_nf, o_fn, o_ag, q_b, q_i, q_s, q_np, q_pv, q_pe, q_ns, q_sl, q_nm, q_mp, q_nf, q_fn, q_ag, Bool.and_true, Bool.and_self, Bool.true_and, AV.b.injEq, decide_eq_true_eq, decide_eq_false_iff_not, true_and, and_true, and_self, reduceCtorEq, imp_self, implies_true, forall_const, eq_self, ex_tp, ex_ag, List.getD_cons_zero, List.getD_cons_succ, List.length_cons, List.length_nil, Nat.reduceAdd, Nat.reduceLT, Nat.zero_add, bne_self_eq_false, decide_true, decide_false, eq_self, true_implies, false_implies, forall_const, Bool.true_eq_false, Bool.not_true, Bool.not_false, not_true_eq_false, not_false_eq_true, if_true, if_false, pickV, cond_true, cond_false, boolV, fillEC, fillE, List.replicate, List.set, Mem.newL, Mem.keep, Int.reduceToNat, Nat.reduceSub, List.drop_zero, Int.reduceLE, Int.le_refl, Nat.sub_zero, Mem.newL, Mem.newL, Mem.getL, Mem.hasL, lookL, setL, dropL, keepL, memN, la_faC, la_faV, la_ldC, la_ldX, la_stC, la_stM, partOf, partFits, setEl, setPart, Option.isSome_some, Option.getD_some, List.take_succ_cons, List.take_zero, List.drop_succ_cons, List.drop_zero, List.nil_append, List.cons_append, List.getD_cons_zero, List.getD_cons_succ, List.length_cons, List.length_nil, List.set_cons_zero, List.append_nil, List.drop_nil, List.take_nil, Nat.reduceAdd, Nat.reduceLT, Nat.reduceLeDiff, Nat.zero_add, Nat.add_zero, Nat.lt_add_one, Nat.le_refl, Nat.zero_le, Nat.zero_lt_succ, fillP, fillC, Nat.reduceLeDiff, lgAt, isRd, pv_faC, pv_faV, k0, st1, st2, k2, k3, k4, k5, k6, hout, hone, oo, show ((2 : Nat) : Int) = 2 from rfl, Int.reduceEq, endK, rsC, rsV, resV]
    exact ⟨_, _, _, _, os, rfl, m6.sl, by omega, e6⟩
  by_cases r3 : r = 3
  · subst r3
    have lit := fun (L : List Lv) (g : Nat) => Mn.ap (z := 2) (by' := 24) m6 (lit_srcO (t := 28) (g := g) (x := (65536, [])) (L := L) (H := H6)) (by simp; omega)
    simp -implicitDefEqProofs only [x_q, x_o, x_b, x_k, x_x, x_r, x_it, x_if, x_p, p_nil, p_on, p_off, p_mv, p_pk, p_bn, p_un, p_be, p_nl, p_eqa, p_ci, p_cbs, p_csb, p_ex, p_bd, p_fd, p_ix, p_ixa, p_ss, p_sl, p_sla, p_ln, p_lns, p_lnm, p_al, p_bx, p_lal, p_lbx, p_ld, p_st, p_fa, p_ia, p_iaa, p_bs, p_lbs, p_mk, p_ap, p_cp, p_cl, p_cv, p_mf, p_nc, p_mm, p_mkm, p_lk, p_mu, p_dl, p_rs, p_nx, cfC, lgPut, isOk, rv, rh, Bool.false_eq_true, d_nil, d_on, d_off, d_mv, d_pk, d_bn, d_un, d_be, d_nl, d_eqa, d_ci, d_cbs, d_csb, d_ex, d_bd, d_fd, d_ix, d_ixa, d_ss, d_sl, d_sla, d_ln, d_lns, d_lnm, d_al, d_bx, d_lal, d_lbx, d_ld, d_st, d_fa, d_ia, d_iaa, d_bs, d_lbs, d_mk, d_ap, d_cp, d_cl, d_cv, d_mf, d_nc, d_mm, d_mkm, d_lk, d_mu, d_dl, d_rs, d_nx, okO, vlO, mmO, dsO, putE, args, evT, evs, evO, look, kOps, kSeq, kBlk, keepE, reduceIte, Nat.reduceEqDiff, binC, binV, intC, intV, strC, strV, unC, unV, AV.isI, AV.isB, AV.isS, AV.toI, AV.toK, AV.toS, allOut, o_b, o_i, o_s, o_np, o_pv, o_pe, o_ns, o_sl, o_nm, o_mp, o_nf, o_fn, o_ag, q_b, q_i, q_s, q_np, q_pv, q_pe, q_ns, q_sl, q_nm, q_mp, q_nf, q_fn, q_ag, Bool.and_true, Bool.and_self, Bool.true_and, AV.b.injEq, decide_eq_true_eq, decide_eq_false_iff_not, true_and, and_true, and_self, reduceCtorEq, imp_self, implies_true, forall_const, eq_self, ex_tp, ex_ag, List.getD_cons_zero, List.getD_cons_succ, List.length_cons, List.length_nil, Nat.reduceAdd, Nat.reduceLT, Nat.zero_add, bne_self_eq_false, decide_true, decide_false, eq_self, true_implies, false_implies, forall_const, Bool.true_eq_false, Bool.not_true, Bool.not_false, not_true_eq_false, not_false_eq_true, if_true, if_false, pickV, cond_true, cond_false, boolV, fillEC, fillE, List.replicate, List.set, Mem.newL, Mem.keep, Int.reduceToNat, Nat.reduceSub, List.drop_zero, Int.reduceLE, Int.le_refl, Nat.sub_zero, Mem.newL, Mem.newL, Mem.getL, Mem.hasL, lookL, setL, dropL, keepL, memN, la_faC, la_faV, la_ldC, la_ldX, la_stC, la_stM, partOf, partFits, setEl, setPart, Option.isSome_some, Option.getD_some, List.take_succ_cons, List.take_zero, List.drop_succ_cons, List.drop_zero, List.nil_append, List.cons_append, List.getD_cons_zero, List.getD_cons_succ, List.length_cons, List.length_nil, List.set_cons_zero, List.append_nil, List.drop_nil, List.take_nil, Nat.reduceAdd, Nat.reduceLT, Nat.reduceLeDiff, Nat.zero_add, Nat.add_zero, Nat.lt_add_one, Nat.le_refl, Nat.zero_le, Nat.zero_lt_succ, fillP, fillC, Nat.reduceLeDiff, lgAt, isRd, pv_faC, pv_faV, k0, st1, st2, k2, k3, k4, k5, k6, hout, hone, oo, show ((3 : Nat) : Int) = 3 from rfl, Int.reduceEq, fillEC, fillE, List.replicate, List.set]
    obtain ⟨p1, o', H7, p2, p3, p4, p5, p6, p7, -⟩ := lit [] 0
    have oo' := (Mn.sl p4).out
    simp -implicitDefEqProofs only [x_q, x_o, x_b, x_k, x_x, x_r, x_it, x_if, x_p, p_nil, p_on, p_off, p_mv, p_pk, p_bn, p_un, p_be, p_nl, p_eqa, p_ci, p_cbs, p_csb, p_ex, p_bd, p_fd, p_ix, p_ixa, p_ss, p_sl, p_sla, p_ln, p_lns, p_lnm, p_al, p_bx, p_lal, p_lbx, p_ld, p_st, p_fa, p_ia, p_iaa, p_bs, p_lbs, p_mk, p_ap, p_cp, p_cl, p_cv, p_mf, p_nc, p_mm, p_mkm, p_lk, p_mu, p_dl, p_rs, p_nx, cfC, lgPut, isOk, rv, rh, Bool.false_eq_true, d_nil, d_on, d_off, d_mv, d_pk, d_bn, d_un, d_be, d_nl, d_eqa, d_ci, d_cbs, d_csb, d_ex, d_bd, d_fd, d_ix, d_ixa, d_ss, d_sl, d_sla, d_ln, d_lns, d_lnm, d_al, d_bx, d_lal, d_lbx, d_ld, d_st, d_fa, d_ia, d_iaa, d_bs, d_lbs, d_mk, d_ap, d_cp, d_cl, d_cv, d_mf, d_nc, d_mm, d_mkm, d_lk, d_mu, d_dl, d_rs, d_nx, okO, vlO, mmO, dsO, putE, args, evT, evs, evO, look, kOps, kSeq, kBlk, keepE, reduceIte, Nat.reduceEqDiff, binC, binV, intC, intV, strC, strV, unC, unV, AV.isI, AV.isB, AV.isS, AV.toI, AV.toK, AV.toS, allOut, o_b, o_i, o_s, o_np, o_pv, o_pe, o_ns, o_sl, o_nm, o_mp, o_nf, o_fn, o_ag, q_b, q_i, q_s, q_np, q_pv, q_pe, q_ns, q_sl, q_nm, q_mp, q_nf, q_fn, q_ag, Bool.and_true, Bool.and_self, Bool.true_and, AV.b.injEq, decide_eq_true_eq, decide_eq_false_iff_not, true_and, and_true, and_self, reduceCtorEq, imp_self, implies_true, forall_const, eq_self, ex_tp, ex_ag, List.getD_cons_zero, List.getD_cons_succ, List.length_cons, List.length_nil, Nat.reduceAdd, Nat.reduceLT, Nat.zero_add, bne_self_eq_false, p1, p2, p3, oo', endK, rsC, rsV, resV]
    have kp : Kp (idA ov) H6 H7 := ⟨p5, p6⟩
    refine ⟨_, _, _, _, os ++ [(65536, [])], rfl, ?_, ?_, kp.put e6 i6⟩
    · have : Mn H7 2 o' (os.map eO.v ++ [eO.v (65536, [])]) := p4
      unfold Sx; rw [List.map_append]; exact this.sl
    · rw [tot_app']; simp [tot', wO]; omega
  by_cases r4 : r = 4
  · subst r4
    obtain ⟨v7, H7, k7, ⟨r7, rfl, b7⟩, s7, f7⟩ := hN H0.n a l 2 H6 s6 hl (by decide) (by decide)
    have hw : IntKind.i64.wrap (65531 - (r7 : Int)) = ((65531 - r7 : Nat) : Int) := by rw [w64 (by omega) (by omega)]; omega
    have hz : Mb (H7.new (.arr true 0 1 (List.replicate (65531 - r7) (.i .u8 0)))) (.sl H7.n 0 (65531 - r7)) (List.replicate (65531 - r7) 0) := by
      rw [rep_enc]; exact Mb.new2 (by simp)
    obtain ⟨c1, c2⟩ := Byt.cbs hz.sl
    have m7 : Mx (H7.new (.arr true 0 1 (List.replicate (65531 - r7) (.i .u8 0)))) eO ov os := Mn.ext (f7.mn m6 fun j hj hh => by
      simp only [List.mem_singleton] at hh
      have := i5 j hj
      omega) (.new _ _)
    have e7 : Ext H0 (H7.new (.arr true 0 1 (List.replicate (65531 - r7) (.i .u8 0)))) := (f7.put e6 (fun i hi => by simp only [List.mem_singleton] at hi; omega)).trans (.new _ _)
    have lit := fun (L : List Lv) (g : Nat) => Mn.ap (z := 2) (by' := 24) m7 (lit_srcO (t := 38) (g := g) (x := (0, List.replicate (65531 - r7) 0)) (L := L)) (by simp; omega)
    have z1 : (0 : Int) ≤ ((65531 - r7 : Nat) : Int) := by omega
    have z2 : ((65531 - r7 : Nat) : Int) ≤ 281474976710656 := by omega
    have z3 : ((65531 - r7 : Nat) : Int) ≤ 9223372036854775807 := by omega
    have z4 : ((65531 - r7 : Nat) : Int) * ((1 : Nat) : Int) ≤ 281474976710656 := by omega
    simp -implicitDefEqProofs only [x_q, x_o, x_b, x_k, x_x, x_r, x_it, x_if, x_p, p_nil, p_on, p_off, p_mv, p_pk, p_bn, p_un, p_be, p_nl, p_eqa, p_ci, p_cbs, p_csb, p_ex, p_bd, p_fd, p_ix, p_ixa, p_ss, p_sl, p_sla, p_ln, p_lns, p_lnm, p_al, p_bx, p_lal, p_lbx, p_ld, p_st, p_fa, p_ia, p_iaa, p_bs, p_lbs, p_mk, p_ap, p_cp, p_cl, p_cv, p_mf, p_nc, p_mm, p_mkm, p_lk, p_mu, p_dl, p_rs, p_nx, cfC, lgPut, isOk, rv, rh, Bool.false_eq_true, d_nil, d_on, d_off, d_mv, d_pk, d_bn, d_un, d_be, d_nl, d_eqa, d_ci, d_cbs, d_csb, d_ex, d_bd, d_fd, d_ix, d_ixa, d_ss, d_sl, d_sla, d_ln, d_lns, d_lnm, d_al, d_bx, d_lal, d_lbx, d_ld, d_st, d_fa, d_ia, d_iaa, d_bs, d_lbs, d_mk, d_ap, d_cp, d_cl, d_cv, d_mf, d_nc, d_mm, d_mkm, d_lk, d_mu, d_dl, d_rs, d_nx, okO, vlO, mmO, dsO, putE, args, evT, evs, evO, look, kOps, kSeq, kBlk, keepE, reduceIte, Nat.reduceEqDiff, binC, binV, intC, intV, strC, strV, unC, unV, AV.isI, AV.isB, AV.isS, AV.toI, AV.toK, AV.toS, allOut, o_b, o_i, o_s, o_np, o_pv, o_pe, o_ns, o_sl, o_nm, o_mp, o_nf, o_fn, o_ag, q_b, q_i, q_s, q_np, q_pv, q_pe, q_ns, q_sl, q_nm, q_mp, q_nf, q_fn, q_ag, Bool.and_true, Bool.and_self, Bool.true_and, AV.b.injEq, decide_eq_true_eq, decide_eq_false_iff_not, true_and, and_true, and_self, reduceCtorEq, imp_self, implies_true, forall_const, eq_self, ex_tp, ex_ag, List.getD_cons_zero, List.getD_cons_succ, List.length_cons, List.length_nil, Nat.reduceAdd, Nat.reduceLT, Nat.zero_add, bne_self_eq_false, decide_true, decide_false, eq_self, true_implies, false_implies, forall_const, Bool.true_eq_false, Bool.not_true, Bool.not_false, not_true_eq_false, not_false_eq_true, if_true, if_false, pickV, cond_true, cond_false, boolV, fillEC, fillE, List.replicate, List.set, Mem.newL, Mem.keep, Int.reduceToNat, Nat.reduceSub, List.drop_zero, Int.reduceLE, Int.le_refl, Nat.sub_zero, Mem.newL, Mem.newL, Mem.getL, Mem.hasL, lookL, setL, dropL, keepL, memN, la_faC, la_faV, la_ldC, la_ldX, la_stC, la_stM, partOf, partFits, setEl, setPart, Option.isSome_some, Option.getD_some, List.take_succ_cons, List.take_zero, List.drop_succ_cons, List.drop_zero, List.nil_append, List.cons_append, List.getD_cons_zero, List.getD_cons_succ, List.length_cons, List.length_nil, List.set_cons_zero, List.append_nil, List.drop_nil, List.take_nil, Nat.reduceAdd, Nat.reduceLT, Nat.reduceLeDiff, Nat.zero_add, Nat.add_zero, Nat.lt_add_one, Nat.le_refl, Nat.zero_le, Nat.zero_lt_succ, fillP, fillC, Nat.reduceLeDiff, lgAt, isRd, pv_faC, pv_faV, k0, st1, st2, k2, k3, k4, k5, k6, k7, hout, hone, oo, show ((4 : Nat) : Int) = 4 from rfl, Int.reduceEq, hw, z1, z2, z3, z4, toNat_nat, c1, c2, fillEC, fillE, List.replicate_succ, List.replicate_zero, List.set]
    obtain ⟨p1, o', H8, p2, p3, p4, p5, p6, p7, -⟩ := lit [] 0
    have oo' := (Mn.sl p4).out
    simp -implicitDefEqProofs only [x_q, x_o, x_b, x_k, x_x, x_r, x_it, x_if, x_p, p_nil, p_on, p_off, p_mv, p_pk, p_bn, p_un, p_be, p_nl, p_eqa, p_ci, p_cbs, p_csb, p_ex, p_bd, p_fd, p_ix, p_ixa, p_ss, p_sl, p_sla, p_ln, p_lns, p_lnm, p_al, p_bx, p_lal, p_lbx, p_ld, p_st, p_fa, p_ia, p_iaa, p_bs, p_lbs, p_mk, p_ap, p_cp, p_cl, p_cv, p_mf, p_nc, p_mm, p_mkm, p_lk, p_mu, p_dl, p_rs, p_nx, cfC, lgPut, isOk, rv, rh, Bool.false_eq_true, d_nil, d_on, d_off, d_mv, d_pk, d_bn, d_un, d_be, d_nl, d_eqa, d_ci, d_cbs, d_csb, d_ex, d_bd, d_fd, d_ix, d_ixa, d_ss, d_sl, d_sla, d_ln, d_lns, d_lnm, d_al, d_bx, d_lal, d_lbx, d_ld, d_st, d_fa, d_ia, d_iaa, d_bs, d_lbs, d_mk, d_ap, d_cp, d_cl, d_cv, d_mf, d_nc, d_mm, d_mkm, d_lk, d_mu, d_dl, d_rs, d_nx, okO, vlO, mmO, dsO, putE, args, evT, evs, evO, look, kOps, kSeq, kBlk, keepE, reduceIte, Nat.reduceEqDiff, binC, binV, intC, intV, strC, strV, unC, unV, AV.isI, AV.isB, AV.isS, AV.toI, AV.toK, AV.toS, allOut, o_b, o_i, o_s, o_np, o_pv, o_pe, o_ns, o_sl, o_nm, o_mp, o_nf, o_fn, o_ag, q_b, q_i, q_s, q_np, q_pv, q_pe, q_ns, q_sl, q_nm, q_mp, q_nf, q_fn, q_ag, Bool.and_true, Bool.and_self, Bool.true_and, AV.b.injEq, decide_eq_true_eq, decide_eq_false_iff_not, true_and, and_true, and_self, reduceCtorEq, imp_self, implies_true, forall_const, eq_self, ex_tp, ex_ag, List.getD_cons_zero, List.getD_cons_succ, List.length_cons, List.length_nil, Nat.reduceAdd, Nat.reduceLT, Nat.zero_add, bne_self_eq_false, p1, p2, p3, oo', endK, rsC, rsV, resV]
    have kp : Kp (idA ov) (H7.new (.arr true 0 1 (List.replicate (65531 - r7) (.i .u8 0)))) H8 := ⟨p5, p6⟩
    refine ⟨_, _, _, _, os ++ [(0, List.replicate (65531 - r7) 0)], rfl, ?_, ?_, kp.put e7 i6⟩
    · have : Mn H8 2 o' (os.map eO.v ++ [eO.v (0, List.replicate (65531 - r7) 0)]) := p4
      unfold Sx; rw [List.map_append]; exact this.sl
    · rw [tot_app']; simp [tot', wO]; omega
  by_cases r5 : r = 5
  · subst r5
    obtain ⟨v7, H7, k7, ⟨r7, rfl, b7⟩, s7, f7⟩ := hN H0.n a l 3 H6 s6 hl (by decide) (by decide)
    have hw : IntKind.i64.wrap (65530 + (r7 : Int)) = ((65530 + r7 : Nat) : Int) := by rw [w64 (by omega) (by omega)]; omega
    have hz : Mb (H7.new (.arr true 0 1 (List.replicate (65530 + r7) (.i .u8 0)))) (.sl H7.n 0 (65530 + r7)) (List.replicate (65530 + r7) 0) := by
      rw [rep_enc]; exact Mb.new2 (by simp)
    obtain ⟨c1, c2⟩ := Byt.cbs hz.sl
    have e7 : Ext H0 (H7.new (.arr true 0 1 (List.replicate (65530 + r7) (.i .u8 0)))) := (f7.put e6 (fun i hi => by simp only [List.mem_singleton] at hi; omega)).trans (.new _ _)
    have z1 : (0 : Int) ≤ ((65530 + r7 : Nat) : Int) := by omega
    have z3 : ((65530 + r7 : Nat) : Int) ≤ 9223372036854775807 := by omega
    have z4 : ((65530 + r7 : Nat) : Int) * ((1 : Nat) : Int) ≤ 281474976710656 := by omega
    simp -implicitDefEqProofs only [x_q, x_o, x_b, x_k, x_x, x_r, x_it, x_if, x_p, p_nil, p_on, p_off, p_mv, p_pk, p_bn, p_un, p_be, p_nl, p_eqa, p_ci, p_cbs, p_csb, p_ex, p_bd, p_fd, p_ix, p_ixa, p_ss, p_sl, p_sla, p_ln, p_lns, p_lnm, p_al, p_bx, p_lal, p_lbx, p_ld, p_st, p_fa, p_ia, p_iaa, p_bs, p_lbs, p_mk, p_ap, p_cp, p_cl, p_cv, p_mf, p_nc, p_mm, p_mkm, p_lk, p_mu, p_dl, p_rs, p_nx, cfC, lgPut, isOk, rv, rh, Bool.false_eq_true, d_nil, d_on, d_off, d_mv, d_pk, d_bn, d_un, d_be, d_nl, d_eqa, d_ci, d_cbs, d_csb, d_ex, d_bd, d_fd, d_ix, d_ixa, d_ss, d_sl, d_sla, d_ln, d_lns, d_lnm, d_al, d_bx, d_lal, d_lbx, d_ld, d_st, d_fa, d_ia, d_iaa, d_bs, d_lbs, d_mk, d_ap, d_cp, d_cl, d_cv, d_mf, d_nc, d_mm, d_mkm, d_lk, d_mu, d_dl, d_rs, d_nx, okO, vlO, mmO, dsO, putE, args, evT, evs, evO, look, kOps, kSeq, kBlk, keepE, reduceIte, Nat.reduceEqDiff, binC, binV, intC, intV, strC, strV, unC, unV, AV.isI, AV.isB, AV.isS, AV.toI, AV.toK, AV.toS, allOut, o_b, o_i, o_s, o_np, o_pv, o_pe, o_ns, o_sl, o_nm, o_mp, o_nf, o_fn, o_ag, q_b, q_i, q_s, q_np, q_pv, q_pe, q_ns, q_sl, q_nm, q_mp, q_nf, q_fn, q_ag, Bool.and_true, Bool.and_self, Bool.true_and, AV.b.injEq, decide_eq_true_eq, decide_eq_false_iff_not, true_and, and_true, and_self, reduceCtorEq, imp_self, implies_true, forall_const, eq_self, ex_tp, ex_ag, List.getD_cons_zero, List.getD_cons_succ, List.length_cons, List.length_nil, Nat.reduceAdd, Nat.reduceLT, Nat.zero_add, bne_self_eq_false, decide_true, decide_false, eq_self, true_implies, false_implies, forall_const, Bool.true_eq_false, Bool.not_true, Bool.not_false, not_true_eq_false, not_false_eq_true, if_true, if_false, pickV, cond_true, cond_false, boolV, fillEC, fillE, List.replicate, List.set, Mem.newL, Mem.keep, Int.reduceToNat, Nat.reduceSub, List.drop_zero, Int.reduceLE, Int.le_refl, Nat.sub_zero, Mem.newL, Mem.newL, Mem.getL, Mem.hasL, lookL, setL, dropL, keepL, memN, la_faC, la_faV, la_ldC, la_ldX, la_stC, la_stM, partOf, partFits, setEl, setPart, Option.isSome_some, Option.getD_some, List.take_succ_cons, List.take_zero, List.drop_succ_cons, List.drop_zero, List.nil_append, List.cons_append, List.getD_cons_zero, List.getD_cons_succ, List.length_cons, List.length_nil, List.set_cons_zero, List.append_nil, List.drop_nil, List.take_nil, Nat.reduceAdd, Nat.reduceLT, Nat.reduceLeDiff, Nat.zero_add, Nat.add_zero, Nat.lt_add_one, Nat.le_refl, Nat.zero_le, Nat.zero_lt_succ, fillP, fillC, Nat.reduceLeDiff, lgAt, isRd, pv_faC, pv_faV, k0, st1, st2, k2, k3, k4, k5, k6, k7, hout, hone, oo, show ((5 : Nat) : Int) = 5 from rfl, Int.reduceEq, hw, z1, z3, z4, toNat_nat, c1, c2, fillEC, fillE, List.replicate_succ, List.replicate_zero, List.set, endK, rsC, rsV, resV]
    refine ⟨_, _, _, _, [(0, List.replicate (65530 + r7) 0)], rfl, ?_, by simp [tot', wO]; omega, e7.trans (.new _ _)⟩
    have := Mn.own (H := (H7.new (.arr true 0 1 (List.replicate (65530 + r7) (.i .u8 0)))).new (.arr true 0 2 [eO.v (0, List.replicate (65530 + r7) 0)])) (z := 2) (xs := [eO.v (0, List.replicate (65530 + r7) 0)]) (by simp) new_at
    exact this.sl
  have n0 := hne 0 r0
  have n1 := hne 1 r1
  have n2 := hne 2 r2
  have n3 := hne 3 r3
  have n4 := hne 4 r4
  have n5 := hne 5 r5
  simp only [show ((0 : Nat) : Int) = 0 from rfl, show ((1 : Nat) : Int) = 1 from rfl, show ((2 : Nat) : Int) = 2 from rfl, show ((3 : Nat) : Int) = 3 from rfl, show ((4 : Nat) : Int) = 4 from rfl, show ((5 : Nat) : Int) = 5 from rfl] at n0 n1 n2 n3 n4 n5
  simp -implicitDefEqProofs only [x_q, x_o, x_b, x_k, x_x, x_r, x_it, x_if, x_p, p_nil, p_on, p_off, p_mv, p_pk, p_bn, p_un, p_be, p_nl, p_eqa, p_ci, p_cbs, p_csb, p_ex, p_bd, p_fd, p_ix, p_ixa, p_ss, p_sl, p_sla, p_ln, p_lns, p_lnm, p_al, p_bx, p_lal, p_lbx, p_ld, p_st, p_fa, p_ia, p_iaa, p_bs, p_lbs, p_mk, p_ap, p_cp, p_cl, p_cv, p_mf, p_nc, p_mm, p_mkm, p_lk, p_mu, p_dl, p_rs, p_nx, cfC, lgPut, isOk, rv, rh, Bool.false_eq_true, d_nil, d_on, d_off, d_mv, d_pk, d_bn, d_un, d_be, d_nl, d_eqa, d_ci, d_cbs, d_csb, d_ex, d_bd, d_fd, d_ix, d_ixa, d_ss, d_sl, d_sla, d_ln, d_lns, d_lnm, d_al, d_bx, d_lal, d_lbx, d_ld, d_st, d_fa, d_ia, d_iaa, d_bs, d_lbs, d_mk, d_ap, d_cp, d_cl, d_cv, d_mf, d_nc, d_mm, d_mkm, d_lk, d_mu, d_dl, d_rs, d_nx, okO, vlO, mmO, dsO, putE, args, evT, evs, evO, look, kOps, kSeq, kBlk, keepE, reduceIte, Nat.reduceEqDiff, binC, binV, intC, intV, strC, strV, unC, unV, AV.isI, AV.isB, AV.isS, AV.toI, AV.toK, AV.toS, allOut, o_b, o_i, o_s, o_np, o_pv, o_pe, o_ns, o_sl, o_nm, o_mp, o_nf, o_fn, o_ag, q_b, q_i, q_s, q_np, q_pv, q_pe, q_ns, q_sl, q_nm, q_mp, q_nf, q_fn, q_ag, Bool.and_true, Bool.and_self, Bool.true_and, AV.b.injEq, decide_eq_true_eq, decide_eq_false_iff_not, true_and, and_true, and_self, reduceCtorEq, imp_self, implies_true, forall_const, eq_self, ex_tp, ex_ag, List.getD_cons_zero, List.getD_cons_succ, List.length_cons, List.length_nil, Nat.reduceAdd, Nat.reduceLT, Nat.zero_add, bne_self_eq_false, decide_true, decide_false, eq_self, true_implies, false_implies, forall_const, Bool.true_eq_false, Bool.not_true, Bool.not_false, not_true_eq_false, not_false_eq_true, if_true, if_false, pickV, cond_true, cond_false, boolV, fillEC, fillE, List.replicate, List.set, Mem.newL, Mem.keep, Int.reduceToNat, Nat.reduceSub, List.drop_zero, Int.reduceLE, Int.le_refl, Nat.sub_zero, Mem.newL, Mem.newL, Mem.getL, Mem.hasL, lookL, setL, dropL, keepL, memN, la_faC, la_faV, la_ldC, la_ldX, la_stC, la_stM, partOf, partFits, setEl, setPart, Option.isSome_some, Option.getD_some, List.take_succ_cons, List.take_zero, List.drop_succ_cons, List.drop_zero, List.nil_append, List.cons_append, List.getD_cons_zero, List.getD_cons_succ, List.length_cons, List.length_nil, List.set_cons_zero, List.append_nil, List.drop_nil, List.take_nil, Nat.reduceAdd, Nat.reduceLT, Nat.reduceLeDiff, Nat.zero_add, Nat.add_zero, Nat.lt_add_one, Nat.le_refl, Nat.zero_le, Nat.zero_lt_succ, fillP, fillC, Nat.reduceLeDiff, lgAt, isRd, pv_faC, pv_faV, k0, st1, st2, k2, k3, k4, k5, k6, hout, hone, oo, n0, n1, n2, n3, n4, n5, endK, rsC, rsV, resV]
  exact ⟨_, _, _, _, os, rfl, m6.sl, by omega, e6⟩
end
end Go.Vm
