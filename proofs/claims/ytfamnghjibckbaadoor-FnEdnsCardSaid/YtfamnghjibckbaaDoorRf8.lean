import Derived.Test.YtfamnghjibckbaaDoorRf7
import Derived.Test.YtfamnghjibckbaaDoorRf3
import Derived.Test.YtfamnghjibckbaaDoorProg
import Derived.KernelRfl
import Derived.Test.YtfamnghjibckbaaDoorRf6
/- The writer of messages: a message of one record among the extra ones. -/
namespace Go.Vm
set_option linter.unusedVariables false
set_option linter.unusedSimpArgs false
def hd0 : Hd := ⟨0, false, 0, false, false, false, false, false, false, false, 0⟩
def hdr1 : List UInt8 := [0, 0, 0, 0, 0, 0, 0, 0, 0, 0, 0, 1]
def T_flag (C : Tab) (f : Nat) : Prop := ∀ (k : Int) (H : AH), 0 ≤ k → k ≤ 62 → C f [.b false, .i .u64 k] H = some (.i .i64 0, H)
def T_encoded1 (C : Tab) (f : Nat) : Prop := ∀ (c : AV) (r : Rr) (H : AH), Sx H eR c [r] → Plain r → ∃ v H', C f [mV hd0 .ns .ns .ns c] H = some (v, H') ∧ Mb H' v (hdr1 ++ recB r) ∧ Ext H H' ∧ ∀ i, i ∈ idA v → H.n ≤ i
def T_valid1 (C : Tab) (f : Nat) : Prop := ∀ (c : AV) (r : Rr) (H : AH), FormsOK H → Sx H eR c [r] → Plain r → formless r.t → ∃ v H', C f [mV hd0 .ns .ns .ns c] H = some (v, H') ∧ v = .b true ∧ Ext H H'
def Enc1Post (r : Rr) (H : AH) (v : AV) (H' : AH) : Prop := Ext H H' ∧ if (hdr1 ++ recB r).length > 65535 then v = .tp [.ns, .i .i64 11] else ∃ bv, v = .tp [bv, .i .i64 0] ∧ Mb H' bv (hdr1 ++ recB r) ∧ ∀ i, i ∈ idA bv → H.n ≤ i
theorem recB_len (r : Rr) : (recB r).length = 11 + r.d.length := by simp [recB, be16, be32]; omega
section
variable {C : Tab}
set_option maxRecDepth 100000 in
theorem r_encoded1 {c : AV} {r : Rr} {H : AH} (hF : T_flag C n_impl_flag) (hP : T_p16 C n_impl_p16) (hU : T_put C n_impl_encoder_put) (hR : T_encRecord0 C n_impl_encoder_record) (hc : Sx H eR c [r]) (hr : Plain r) :
    Runs C c_impl_encoded [mV hd0 .ns .ns .ns c] H fun v H' => Mb H' v (hdr1 ++ recB r) ∧ Ext H H' ∧ ∀ i, i ∈ idA v → H.n ≤ i := by
  unfold Runs c_impl_encoded mV hd0
  have o4 := hc.out
  have z4 := hc.one
  obtain ⟨l1, l2⟩ := hc.len
  have l1' : lenV c = .i .i64 1 := l1
  have l0 : lenV .ns = .i .i64 0 := rfl
  have l00 : lenC .ns := trivial
  have oM : Obj1 ((H.new (.map true [])).new (.arr true 0 2 [.ag [.ns, .mp H.n]])) (H.new (.map true [])).n [.ns, .mp H.n] := Obj1.new (cs := [.ns, .mp H.n])
  have e0 : Ext H ((H.new (.map true [])).new (.arr true 0 2 [.ag [.ns, .mp H.n]])) := (Ext.new H _).trans (.new _ _)
  have s0 : EncS ((H.new (.map true [])).new (.arr true 0 2 [.ag [.ns, .mp H.n]])) H.n (H.new (.map true [])).n ([], []) :=
    ⟨⟨.ns, H.n, oM, .nil, by simp; try omega, by rw [new_old (by simp)]; exact new_at, by simp [idA], by simp; try omega, by simp [idA], Nat.le_refl _, by simp [idA]⟩, by simp⟩
  generalize hpid : (H.new (.map true [])).n = pid at oM s0
  generalize hH2 : ((H.new (.map true [])).new (.arr true 0 2 [.ag [.ns, .mp H.n]])) = H2 at oM e0 s0
  have k15 := hF 15 H2 (by decide) (by decide)
  have k10 := hF 10 H2 (by decide) (by decide)
  have k9 := hF 9 H2 (by decide) (by decide)
  have k8 := hF 8 H2 (by decide) (by decide)
  have k7 := hF 7 H2 (by decide) (by decide)
  have k6 := hF 6 H2 (by decide) (by decide)
  have k5 := hF 5 H2 (by decide) (by decide)
  have k4 := hF 4 H2 (by decide) (by decide)
  have bo : bitw .or .i64 0 0 = 0 := by decide
  have bs : IntKind.i64.wrap (0 * 2 ^ min 11 IntKind.i64.bits) = 0 := by decide
  have hP0 : ∀ H, ∃ H', C n_impl_p16 [.i .i64 0] H = some (.s [0, 0], H') ∧ Ext H H' := fun H => hP 0 H (by omega)
  have hP1 : ∀ H, ∃ H', C n_impl_p16 [.i .i64 1] H = some (.s [0, 1], H') ∧ Ext H H' := fun H => hP 1 H (by omega)
  obtain ⟨H3, a3, e3⟩ := hP0 H2
  obtain ⟨H4, a4, e4⟩ := hP0 H3
  obtain ⟨H5, a5, e5⟩ := hP0 H4
  obtain ⟨H6, a6, e6⟩ := hP0 H5
  obtain ⟨H7, a7, e7⟩ := hP0 H6
  obtain ⟨H8, a8, e8⟩ := hP1 H7
  have e28 := ((((e3.trans e4).trans e5).trans e6).trans e7).trans e8
  obtain ⟨v9, H9, a9, rfl, s9, b9⟩ := hU H.n pid _ hdr1 H8 (s0.ext e28) (by simp [hdr1])
  have e9 : Ext H H9 := b9.ext (e0.trans e28) (Nat.le_refl _)
  simp only [List.nil_append] at s9
  have a9' : C n_impl_encoder_put [.pv pid 0, .s [0, 0, 0, 0, 0, 0, 0, 0, 0, 0, 0, 1]] H8 = some (.tp [], H9) := a9
  simp -implicitDefEqProofs only [x_q, x_o, x_b, x_k, x_x, x_r, x_it, x_if, x_p, p_nil, p_on, p_off, p_mv, p_pk, p_bn, p_un, p_be, p_nl, p_eqa, p_ci, p_cbs, p_csb, p_ex, p_bd, p_fd, p_ix, p_ixa, p_ss, p_sl, p_sla, p_ln, p_lns, p_lnm, p_al, p_bx, p_lal, p_lbx, p_ld, p_st, p_fa, p_ia, p_iaa, p_bs, p_lbs, p_mk, p_ap, p_cp, p_cl, p_cv, p_mf, p_nc, p_mm, p_mkm, p_lk, p_mu, p_dl, p_rs, p_nx, cfC, lgPut, isOk, rv, rh, Bool.false_eq_true, d_nil, d_on, d_off, d_mv, d_pk, d_bn, d_un, d_be, d_nl, d_eqa, d_ci, d_cbs, d_csb, d_ex, d_bd, d_fd, d_ix, d_ixa, d_ss, d_sl, d_sla, d_ln, d_lns, d_lnm, d_al, d_bx, d_lal, d_lbx, d_ld, d_st, d_fa, d_ia, d_iaa, d_bs, d_lbs, d_mk, d_ap, d_cp, d_cl, d_cv, d_mf, d_nc, d_mm, d_mkm, d_lk, d_mu, d_dl, d_rs, d_nx, okO, vlO, mmO, dsO, putE, args, evT, evs, evO, look, kOps, kSeq, kBlk, keepE, reduceIte, Nat.reduceEqDiff, binC, binV, intC, intV, strC, strV, unC, unV, AV.isI, AV.isB, AV.isS, AV.toI, AV.toK, AV.toS, allOut, o_b, o_i, o_s, o_np, o_pv, o_pe, o_ns, o_sl, o_nm, o_mp, o_nf, o_fn, o_ag, q_b, q_i, q_s, q_np, q_pv, q_pe, q_ns, q_sl, q_nm, q_mp, q_nf, q_fn, q_ag, Bool.and_true, Bool.and_self, Bool.true_and, AV.b.injEq, decide_eq_true_eq, decide_eq_false_iff_not, true_and, and_true, and_self, reduceCtorEq, imp_self, implies_true, forall_const, eq_self, ex_tp, ex_ag, List.getD_cons_zero, List.getD_cons_succ, List.length_cons, List.length_nil, Nat.reduceAdd, Nat.reduceLT, Nat.zero_add, bne_self_eq_false, decide_true, decide_false, eq_self, true_implies, false_implies, forall_const, Bool.true_eq_false, Bool.not_true, Bool.not_false, not_true_eq_false, not_false_eq_true, if_true, if_false, pickV, cond_true, cond_false, boolV, fillEC, fillE, List.replicate, List.set, Mem.newL, Mem.keep, Int.reduceToNat, Nat.reduceSub, List.drop_zero, Int.reduceLE, Int.le_refl, Nat.sub_zero, Mem.newL, Mem.newL, Mem.getL, Mem.hasL, lookL, setL, dropL, keepL, memN, la_faC, la_faV, la_ldC, la_ldX, la_stC, la_stM, partOf, partFits, setEl, setPart, Option.isSome_some, Option.getD_some, List.take_succ_cons, List.take_zero, List.drop_succ_cons, List.drop_zero, List.nil_append, List.cons_append, List.getD_cons_zero, List.getD_cons_succ, List.length_cons, List.length_nil, List.set_cons_zero, List.append_nil, List.drop_nil, List.take_nil, Nat.reduceAdd, Nat.reduceLT, Nat.reduceLeDiff, Nat.zero_add, Nat.add_zero, Nat.lt_add_one, Nat.le_refl, Nat.zero_le, Nat.zero_lt_succ, fillP, fillC, Nat.reduceLeDiff, lgAt, isRd, hpid, hH2, o4, z4, l0, l00, l1', l2, k15, k10, k9, k8, k7, k6, k5, k4, bo, bs, a3, a4, a5, a6, a7, a8, a9']
  refine exec_loop (fun n e M => ∃ (L : List Lv) (g : Nat), look e 84 = .ns ∧ look e 85 = .i .i64 0 ∧ look e 86 = .i .i64 0 ∧ look e 1 = .la 1 0 0 0 ∧ look e 4 = .pv pid 0 ∧ M = ⟨L, g, H9⟩ ∧ keepL [1, 4, 84, 85, 86] L = [⟨1, 0, 0, [mV hd0 .ns .ns .ns c]⟩]) ?_ (n := 0) ⟨_, _, rfl, rfl, rfl, rfl, rfl, rfl, rfl⟩
  rintro n e M ⟨L, g, q84, q85, q86, q1, q4, rfl, hL⟩
  unfold mV hd0 at hL
  simp -implicitDefEqProofs only [x_q, x_o, x_b, x_k, x_x, x_r, x_it, x_if, x_p, p_nil, p_on, p_off, p_mv, p_pk, p_bn, p_un, p_be, p_nl, p_eqa, p_ci, p_cbs, p_csb, p_ex, p_bd, p_fd, p_ix, p_ixa, p_ss, p_sl, p_sla, p_ln, p_lns, p_lnm, p_al, p_bx, p_lal, p_lbx, p_ld, p_st, p_fa, p_ia, p_iaa, p_bs, p_lbs, p_mk, p_ap, p_cp, p_cl, p_cv, p_mf, p_nc, p_mm, p_mkm, p_lk, p_mu, p_dl, p_rs, p_nx, cfC, lgPut, isOk, rv, rh, Bool.false_eq_true, d_nil, d_on, d_off, d_mv, d_pk, d_bn, d_un, d_be, d_nl, d_eqa, d_ci, d_cbs, d_csb, d_ex, d_bd, d_fd, d_ix, d_ixa, d_ss, d_sl, d_sla, d_ln, d_lns, d_lnm, d_al, d_bx, d_lal, d_lbx, d_ld, d_st, d_fa, d_ia, d_iaa, d_bs, d_lbs, d_mk, d_ap, d_cp, d_cl, d_cv, d_mf, d_nc, d_mm, d_mkm, d_lk, d_mu, d_dl, d_rs, d_nx, okO, vlO, mmO, dsO, putE, args, evT, evs, evO, look, kOps, kSeq, kBlk, keepE, reduceIte, Nat.reduceEqDiff, binC, binV, intC, intV, strC, strV, unC, unV, AV.isI, AV.isB, AV.isS, AV.toI, AV.toK, AV.toS, allOut, o_b, o_i, o_s, o_np, o_pv, o_pe, o_ns, o_sl, o_nm, o_mp, o_nf, o_fn, o_ag, q_b, q_i, q_s, q_np, q_pv, q_pe, q_ns, q_sl, q_nm, q_mp, q_nf, q_fn, q_ag, Bool.and_true, Bool.and_self, Bool.true_and, AV.b.injEq, decide_eq_true_eq, decide_eq_false_iff_not, true_and, and_true, and_self, reduceCtorEq, imp_self, implies_true, forall_const, eq_self, ex_tp, ex_ag, List.getD_cons_zero, List.getD_cons_succ, List.length_cons, List.length_nil, Nat.reduceAdd, Nat.reduceLT, Nat.zero_add, bne_self_eq_false, decide_true, decide_false, eq_self, true_implies, false_implies, forall_const, Bool.true_eq_false, Bool.not_true, Bool.not_false, not_true_eq_false, not_false_eq_true, if_true, if_false, pickV, cond_true, cond_false, boolV, fillEC, fillE, List.replicate, List.set, Mem.newL, Mem.keep, Int.reduceToNat, Nat.reduceSub, List.drop_zero, Int.reduceLE, Int.le_refl, Nat.sub_zero, Mem.newL, Mem.newL, Mem.getL, Mem.hasL, lookL, setL, dropL, keepL, memN, la_faC, la_faV, la_ldC, la_ldX, la_stC, la_stM, partOf, partFits, setEl, setPart, Option.isSome_some, Option.getD_some, List.take_succ_cons, List.take_zero, List.drop_succ_cons, List.drop_zero, List.nil_append, List.cons_append, List.getD_cons_zero, List.getD_cons_succ, List.length_cons, List.length_nil, List.set_cons_zero, List.append_nil, List.drop_nil, List.take_nil, Nat.reduceAdd, Nat.reduceLT, Nat.reduceLeDiff, Nat.zero_add, Nat.add_zero, Nat.lt_add_one, Nat.le_refl, Nat.zero_le, Nat.zero_lt_succ, fillP, fillC, Nat.reduceLeDiff, lgAt, isRd, q84, q85, q86, q1, q4, hL, o4, z4, l0, l00, Int.reduceLT, fillEC, fillE, List.replicate, List.set, lenV, lenC]
  refine exec_loop (fun n e M => ∃ (j : Nat) (H' : AH) (L : List Lv) (g g' : Nat), j ≤ 3 ∧ n = 3 - j ∧ look e 4 = .pv pid 0 ∧ look e 110 = .ll 110 g' 1 3 ∧ look e 111 = .i .i64 3 ∧ look e 112 = .i .i64 j ∧ M = ⟨L, g, H'⟩ ∧ Ext H H' ∧ EncS H' H.n pid (hdr1 ++ (if j = 3 then recB r else []), []) ∧ keepL [4, 110, 111, 112] L = [⟨110, g', 0, [.ns, .ns, c]⟩]) ?_ (n := 3)
    ⟨0, H9, _, _, _, by omega, by omega, rfl, rfl, rfl, rfl, rfl, e9, by simpa using s9, rfl⟩
  clear q84 q85 q86 q1 q4 hL
  rintro n e M ⟨j, H', L, g, g', hj, rfl, q4, q110, q111, q112, rfl, he, hs, hL⟩
  have w9 : IntKind.i64.wrap ((j : Int) + 1) = ((j + 1 : Nat) : Int) := by rw [w64 (by omega) (by omega)]; rfl
  have j0 : (0 : Int) ≤ j := by omega
  by_cases hj3 : (j : Int) < 3
  · have hjn : j < 3 := by omega
    have hia : iaC (j : Int) (.ll 110 g' 1 3) := ⟨j0, hj3⟩
    rw [if_neg (by omega), List.append_nil] at hs
    obtain ⟨ax, xs, hax, hget, hxs, hxl, hfl⟩ : ∃ ax xs, Sx H eR ax xs ∧ [AV.ns, .ns, c].getD j .u = ax ∧ (∀ x, x ∈ xs → x = r) ∧ xs.length ≤ 1 ∧ xs.flatMap recB = (if j + 1 = 3 then recB r else []) := by
      obtain rfl | rfl | rfl : j = 0 ∨ j = 1 ∨ j = 2 := by omega
      · exact ⟨.ns, [], .nil, rfl, by simp, by simp, rfl⟩
      · exact ⟨.ns, [], .nil, rfl, by simp, by simp, rfl⟩
      · exact ⟨c, [r], hc, rfl, by simp, by simp, by simp⟩
    obtain ⟨m1, m2⟩ := hax.len
    have za := hax.one
    simp -implicitDefEqProofs only [x_q, x_o, x_b, x_k, x_x, x_r, x_it, x_if, x_p, p_nil, p_on, p_off, p_mv, p_pk, p_bn, p_un, p_be, p_nl, p_eqa, p_ci, p_cbs, p_csb, p_ex, p_bd, p_fd, p_ix, p_ixa, p_ss, p_sl, p_sla, p_ln, p_lns, p_lnm, p_al, p_bx, p_lal, p_lbx, p_ld, p_st, p_fa, p_ia, p_iaa, p_bs, p_lbs, p_mk, p_ap, p_cp, p_cl, p_cv, p_mf, p_nc, p_mm, p_mkm, p_lk, p_mu, p_dl, p_rs, p_nx, cfC, lgPut, isOk, rv, rh, Bool.false_eq_true, d_nil, d_on, d_off, d_mv, d_pk, d_bn, d_un, d_be, d_nl, d_eqa, d_ci, d_cbs, d_csb, d_ex, d_bd, d_fd, d_ix, d_ixa, d_ss, d_sl, d_sla, d_ln, d_lns, d_lnm, d_al, d_bx, d_lal, d_lbx, d_ld, d_st, d_fa, d_ia, d_iaa, d_bs, d_lbs, d_mk, d_ap, d_cp, d_cl, d_cv, d_mf, d_nc, d_mm, d_mkm, d_lk, d_mu, d_dl, d_rs, d_nx, okO, vlO, mmO, dsO, putE, args, evT, evs, evO, look, kOps, kSeq, kBlk, keepE, reduceIte, Nat.reduceEqDiff, binC, binV, intC, intV, strC, strV, unC, unV, AV.isI, AV.isB, AV.isS, AV.toI, AV.toK, AV.toS, allOut, o_b, o_i, o_s, o_np, o_pv, o_pe, o_ns, o_sl, o_nm, o_mp, o_nf, o_fn, o_ag, q_b, q_i, q_s, q_np, q_pv, q_pe, q_ns, q_sl, q_nm, q_mp, q_nf, q_fn, q_ag, Bool.and_true, Bool.and_self, Bool.true_and, AV.b.injEq, decide_eq_true_eq, decide_eq_false_iff_not, true_and, and_true, and_self, reduceCtorEq, imp_self, implies_true, forall_const, eq_self, ex_tp, ex_ag, List.getD_cons_zero, List.getD_cons_succ, List.length_cons, List.length_nil, Nat.reduceAdd, Nat.reduceLT, Nat.zero_add, bne_self_eq_false, decide_true, decide_false, eq_self, true_implies, false_implies, forall_const, Bool.true_eq_false, Bool.not_true, Bool.not_false, not_true_eq_false, not_false_eq_true, if_true, if_false, pickV, cond_true, cond_false, boolV, fillEC, fillE, List.replicate, List.set, Mem.newL, Mem.keep, Int.reduceToNat, Nat.reduceSub, List.drop_zero, Int.reduceLE, Int.le_refl, Nat.sub_zero, Mem.newL, Mem.newL, Mem.getL, Mem.hasL, lookL, setL, dropL, keepL, memN, la_faC, la_faV, la_ldC, la_ldX, la_stC, la_stM, partOf, partFits, setEl, setPart, Option.isSome_some, Option.getD_some, List.take_succ_cons, List.take_zero, List.drop_succ_cons, List.drop_zero, List.nil_append, List.cons_append, List.getD_cons_zero, List.getD_cons_succ, List.length_cons, List.length_nil, List.set_cons_zero, List.append_nil, List.drop_nil, List.take_nil, Nat.reduceAdd, Nat.reduceLT, Nat.reduceLeDiff, Nat.zero_add, Nat.add_zero, Nat.lt_add_one, Nat.le_refl, Nat.zero_le, Nat.zero_lt_succ, fillP, fillC, Nat.reduceLeDiff, lgAt, isRd, q4, q110, q111, q112, hj3, hL, slZ, hia, iaV, toNat_nat, hget, hjn, za, m1, m2]
    refine exec_loop (fun n e M => ∃ (i : Nat) (H' : AH) (L : List Lv) (g : Nat), i ≤ xs.length ∧ n = xs.length - i ∧ look e 4 = .pv pid 0 ∧ look e 110 = .ll 110 g' 1 3 ∧ look e 111 = .i .i64 3 ∧ look e 112 = .i .i64 j ∧ look e 116 = ax ∧ look e 117 = .i .i64 xs.length ∧ look e 118 = .i .i64 i ∧ M = ⟨L, g, H'⟩ ∧ Ext H H' ∧ EncS H' H.n pid (hdr1 ++ (xs.take i).flatMap recB, []) ∧ keepL [4, 110, 111, 112, 116, 117, 118] L = [⟨110, g', 0, [.ns, .ns, c]⟩]) ?_ (n := xs.length)
      ⟨0, H', _, _, by omega, by omega, rfl, rfl, rfl, rfl, rfl, rfl, rfl, rfl, he, by simpa using hs, rfl⟩
    clear q4 q110 q111 q112 hL he hs
    clear H'
    rintro n e M ⟨i, H', L, g, hi, rfl, q4, q110, q111, q112, q116, q117, q118, rfl, he, hs, hL⟩
    by_cases hlt : (i : Int) < xs.length
    · have hil : i < xs.length := by omega
      obtain ⟨b1, b2, b3, b4⟩ := Sx.at' (Sl.ext hax he) hil
      have hxr := hxs xs[i] (List.getElem_mem hil)
      rw [hxr] at b4
      simp only [show eR.z = 5 from rfl, show eR.v r = AV.ag [.s r.o, .i .i64 r.t, .i .i64 r.c, .i .i64 r.ttl, .s r.d] from rfl] at b1 b3 b4
      have hi0 : i = 0 := by omega
      obtain ⟨v, H2', k1, rfl, s2, bl⟩ := hR H.n pid _ r H' hs (by subst hi0; simp [hdr1]) hr
      simp only [show eR.v r = AV.ag [.s r.o, .i .i64 r.t, .i .i64 r.c, .i .i64 r.ttl, .s r.d] from rfl] at k1
      have w8 : IntKind.i64.wrap ((i : Int) + 1) = ((i + 1 : Nat) : Int) := by rw [w64 (by omega) (by omega)]; rfl
      simp -implicitDefEqProofs only [x_q, x_o, x_b, x_k, x_x, x_r, x_it, x_if, x_p, p_nil, p_on, p_off, p_mv, p_pk, p_bn, p_un, p_be, p_nl, p_eqa, p_ci, p_cbs, p_csb, p_ex, p_bd, p_fd, p_ix, p_ixa, p_ss, p_sl, p_sla, p_ln, p_lns, p_lnm, p_al, p_bx, p_lal, p_lbx, p_ld, p_st, p_fa, p_ia, p_iaa, p_bs, p_lbs, p_mk, p_ap, p_cp, p_cl, p_cv, p_mf, p_nc, p_mm, p_mkm, p_lk, p_mu, p_dl, p_rs, p_nx, cfC, lgPut, isOk, rv, rh, Bool.false_eq_true, d_nil, d_on, d_off, d_mv, d_pk, d_bn, d_un, d_be, d_nl, d_eqa, d_ci, d_cbs, d_csb, d_ex, d_bd, d_fd, d_ix, d_ixa, d_ss, d_sl, d_sla, d_ln, d_lns, d_lnm, d_al, d_bx, d_lal, d_lbx, d_ld, d_st, d_fa, d_ia, d_iaa, d_bs, d_lbs, d_mk, d_ap, d_cp, d_cl, d_cv, d_mf, d_nc, d_mm, d_mkm, d_lk, d_mu, d_dl, d_rs, d_nx, okO, vlO, mmO, dsO, putE, args, evT, evs, evO, look, kOps, kSeq, kBlk, keepE, reduceIte, Nat.reduceEqDiff, binC, binV, intC, intV, strC, strV, unC, unV, AV.isI, AV.isB, AV.isS, AV.toI, AV.toK, AV.toS, allOut, o_b, o_i, o_s, o_np, o_pv, o_pe, o_ns, o_sl, o_nm, o_mp, o_nf, o_fn, o_ag, q_b, q_i, q_s, q_np, q_pv, q_pe, q_ns, q_sl, q_nm, q_mp, q_nf, q_fn, q_ag, Bool.and_true, Bool.and_self, Bool.true_and, AV.b.injEq, decide_eq_true_eq, decide_eq_false_iff_not, true_and, and_true, and_self, reduceCtorEq, imp_self, implies_true, forall_const, eq_self, ex_tp, ex_ag, List.getD_cons_zero, List.getD_cons_succ, List.length_cons, List.length_nil, Nat.reduceAdd, Nat.reduceLT, Nat.zero_add, bne_self_eq_false, decide_true, decide_false, eq_self, true_implies, false_implies, forall_const, Bool.true_eq_false, Bool.not_true, Bool.not_false, not_true_eq_false, not_false_eq_true, if_true, if_false, pickV, cond_true, cond_false, boolV, fillEC, fillE, List.replicate, List.set, Mem.newL, Mem.keep, Int.reduceToNat, Nat.reduceSub, List.drop_zero, Int.reduceLE, Int.le_refl, Nat.sub_zero, Mem.newL, Mem.newL, Mem.getL, Mem.hasL, lookL, setL, dropL, keepL, memN, la_faC, la_faV, la_ldC, la_ldX, la_stC, la_stM, partOf, partFits, setEl, setPart, Option.isSome_some, Option.getD_some, List.take_succ_cons, List.take_zero, List.drop_succ_cons, List.drop_zero, List.nil_append, List.cons_append, List.getD_cons_zero, List.getD_cons_succ, List.length_cons, List.length_nil, List.set_cons_zero, List.append_nil, List.drop_nil, List.take_nil, Nat.reduceAdd, Nat.reduceLT, Nat.reduceLeDiff, Nat.zero_add, Nat.add_zero, Nat.lt_add_one, Nat.le_refl, Nat.zero_le, Nat.zero_lt_succ, fillP, fillC, Nat.reduceLeDiff, lgAt, isRd, q4, q110, q111, q112, q116, q117, q118, hlt, hL, b1, b2, b3, b4, toNat_nat, k1, w8]
      refine ⟨xs.length - (i + 1), by omega, i + 1, H2', _, _, by omega, rfl, rfl, rfl, bl.ext he (Nat.le_refl _), ?_, rfl⟩
      rw [← List.take_append_getElem hil, List.flatMap_append, hxr, ← List.append_assoc]
      simpa using s2
    · have hil : i = xs.length := by omega
      rw [hil, List.take_length, hfl] at hs
      simp -implicitDefEqProofs only [x_q, x_o, x_b, x_k, x_x, x_r, x_it, x_if, x_p, p_nil, p_on, p_off, p_mv, p_pk, p_bn, p_un, p_be, p_nl, p_eqa, p_ci, p_cbs, p_csb, p_ex, p_bd, p_fd, p_ix, p_ixa, p_ss, p_sl, p_sla, p_ln, p_lns, p_lnm, p_al, p_bx, p_lal, p_lbx, p_ld, p_st, p_fa, p_ia, p_iaa, p_bs, p_lbs, p_mk, p_ap, p_cp, p_cl, p_cv, p_mf, p_nc, p_mm, p_mkm, p_lk, p_mu, p_dl, p_rs, p_nx, cfC, lgPut, isOk, rv, rh, Bool.false_eq_true, d_nil, d_on, d_off, d_mv, d_pk, d_bn, d_un, d_be, d_nl, d_eqa, d_ci, d_cbs, d_csb, d_ex, d_bd, d_fd, d_ix, d_ixa, d_ss, d_sl, d_sla, d_ln, d_lns, d_lnm, d_al, d_bx, d_lal, d_lbx, d_ld, d_st, d_fa, d_ia, d_iaa, d_bs, d_lbs, d_mk, d_ap, d_cp, d_cl, d_cv, d_mf, d_nc, d_mm, d_mkm, d_lk, d_mu, d_dl, d_rs, d_nx, okO, vlO, mmO, dsO, putE, args, evT, evs, evO, look, kOps, kSeq, kBlk, keepE, reduceIte, Nat.reduceEqDiff, binC, binV, intC, intV, strC, strV, unC, unV, AV.isI, AV.isB, AV.isS, AV.toI, AV.toK, AV.toS, allOut, o_b, o_i, o_s, o_np, o_pv, o_pe, o_ns, o_sl, o_nm, o_mp, o_nf, o_fn, o_ag, q_b, q_i, q_s, q_np, q_pv, q_pe, q_ns, q_sl, q_nm, q_mp, q_nf, q_fn, q_ag, Bool.and_true, Bool.and_self, Bool.true_and, AV.b.injEq, decide_eq_true_eq, decide_eq_false_iff_not, true_and, and_true, and_self, reduceCtorEq, imp_self, implies_true, forall_const, eq_self, ex_tp, ex_ag, List.getD_cons_zero, List.getD_cons_succ, List.length_cons, List.length_nil, Nat.reduceAdd, Nat.reduceLT, Nat.zero_add, bne_self_eq_false, decide_true, decide_false, eq_self, true_implies, false_implies, forall_const, Bool.true_eq_false, Bool.not_true, Bool.not_false, not_true_eq_false, not_false_eq_true, if_true, if_false, pickV, cond_true, cond_false, boolV, fillEC, fillE, List.replicate, List.set, Mem.newL, Mem.keep, Int.reduceToNat, Nat.reduceSub, List.drop_zero, Int.reduceLE, Int.le_refl, Nat.sub_zero, Mem.newL, Mem.newL, Mem.getL, Mem.hasL, lookL, setL, dropL, keepL, memN, la_faC, la_faV, la_ldC, la_ldX, la_stC, la_stM, partOf, partFits, setEl, setPart, Option.isSome_some, Option.getD_some, List.take_succ_cons, List.take_zero, List.drop_succ_cons, List.drop_zero, List.nil_append, List.cons_append, List.getD_cons_zero, List.getD_cons_succ, List.length_cons, List.length_nil, List.set_cons_zero, List.append_nil, List.drop_nil, List.take_nil, Nat.reduceAdd, Nat.reduceLT, Nat.reduceLeDiff, Nat.zero_add, Nat.add_zero, Nat.lt_add_one, Nat.le_refl, Nat.zero_le, Nat.zero_lt_succ, fillP, fillC, Nat.reduceLeDiff, lgAt, isRd, q4, q110, q111, q112, q116, q117, q118, hlt, hL, w9]
      exact ⟨3 - (j + 1), by omega, j + 1, H', _, _, g', by omega, rfl, rfl, rfl, rfl, he, hs, rfl⟩
  · have hjn : j = 3 := by omega
    rw [if_pos hjn] at hs
    obtain ⟨⟨bv, mid, ob, mb, -, -, -, -, -, -, hge⟩, -⟩ := hs
    obtain ⟨c1, c2⟩ := ob.ld (off := 0) (by simp)
    have c2' := fun (L : List Lv) (g : Nat) => (c2 L g).trans (show _ = bv from rfl)
    have ob' := mb.sl.out
    simp -implicitDefEqProofs only [x_q, x_o, x_b, x_k, x_x, x_r, x_it, x_if, x_p, p_nil, p_on, p_off, p_mv, p_pk, p_bn, p_un, p_be, p_nl, p_eqa, p_ci, p_cbs, p_csb, p_ex, p_bd, p_fd, p_ix, p_ixa, p_ss, p_sl, p_sla, p_ln, p_lns, p_lnm, p_al, p_bx, p_lal, p_lbx, p_ld, p_st, p_fa, p_ia, p_iaa, p_bs, p_lbs, p_mk, p_ap, p_cp, p_cl, p_cv, p_mf, p_nc, p_mm, p_mkm, p_lk, p_mu, p_dl, p_rs, p_nx, cfC, lgPut, isOk, rv, rh, Bool.false_eq_true, d_nil, d_on, d_off, d_mv, d_pk, d_bn, d_un, d_be, d_nl, d_eqa, d_ci, d_cbs, d_csb, d_ex, d_bd, d_fd, d_ix, d_ixa, d_ss, d_sl, d_sla, d_ln, d_lns, d_lnm, d_al, d_bx, d_lal, d_lbx, d_ld, d_st, d_fa, d_ia, d_iaa, d_bs, d_lbs, d_mk, d_ap, d_cp, d_cl, d_cv, d_mf, d_nc, d_mm, d_mkm, d_lk, d_mu, d_dl, d_rs, d_nx, okO, vlO, mmO, dsO, putE, args, evT, evs, evO, look, kOps, kSeq, kBlk, keepE, reduceIte, Nat.reduceEqDiff, binC, binV, intC, intV, strC, strV, unC, unV, AV.isI, AV.isB, AV.isS, AV.toI, AV.toK, AV.toS, allOut, o_b, o_i, o_s, o_np, o_pv, o_pe, o_ns, o_sl, o_nm, o_mp, o_nf, o_fn, o_ag, q_b, q_i, q_s, q_np, q_pv, q_pe, q_ns, q_sl, q_nm, q_mp, q_nf, q_fn, q_ag, Bool.and_true, Bool.and_self, Bool.true_and, AV.b.injEq, decide_eq_true_eq, decide_eq_false_iff_not, true_and, and_true, and_self, reduceCtorEq, imp_self, implies_true, forall_const, eq_self, ex_tp, ex_ag, List.getD_cons_zero, List.getD_cons_succ, List.length_cons, List.length_nil, Nat.reduceAdd, Nat.reduceLT, Nat.zero_add, bne_self_eq_false, decide_true, decide_false, eq_self, true_implies, false_implies, forall_const, Bool.true_eq_false, Bool.not_true, Bool.not_false, not_true_eq_false, not_false_eq_true, if_true, if_false, pickV, cond_true, cond_false, boolV, fillEC, fillE, List.replicate, List.set, Mem.newL, Mem.keep, Int.reduceToNat, Nat.reduceSub, List.drop_zero, Int.reduceLE, Int.le_refl, Nat.sub_zero, Mem.newL, Mem.newL, Mem.getL, Mem.hasL, lookL, setL, dropL, keepL, memN, la_faC, la_faV, la_ldC, la_ldX, la_stC, la_stM, partOf, partFits, setEl, setPart, Option.isSome_some, Option.getD_some, List.take_succ_cons, List.take_zero, List.drop_succ_cons, List.drop_zero, List.nil_append, List.cons_append, List.getD_cons_zero, List.getD_cons_succ, List.length_cons, List.length_nil, List.set_cons_zero, List.append_nil, List.drop_nil, List.take_nil, Nat.reduceAdd, Nat.reduceLT, Nat.reduceLeDiff, Nat.zero_add, Nat.add_zero, Nat.lt_add_one, Nat.le_refl, Nat.zero_le, Nat.zero_lt_succ, fillP, fillC, Nat.reduceLeDiff, lgAt, isRd, pv_faC, pv_faV, q4, q110, q111, q112, hj3, hL, c1, c2', ob', endK, rsC, rsV, resV]
    exact ⟨mb, he, hge⟩
theorem r_Encode1 {c : AV} {r : Rr} {H : AH} (hV : T_valid1 C n_impl_validMessage) (hE : T_encoded1 C n_impl_encoded) (hF : FormsOK H) (hc : Sx H eR c [r]) (hr : Plain r) (hf : formless r.t) :
    Runs C c_impl_Encode [mV hd0 .ns .ns .ns c] H (Enc1Post r H) := by
  unfold Runs c_impl_Encode
  obtain ⟨v1, H1, k1, rfl, e1⟩ := hV c r H hF hc hr hf
  obtain ⟨bv, H2, k2, b2, e2, i2⟩ := hE c r H1 (Sl.ext hc e1) hr
  have o4 := hc.out
  have oo := b2.sl.out
  obtain ⟨l1, l2⟩ := Byt.len b2.sl
  simp only [mV, hd0] at k1 k2 ⊢
  by_cases hl : (65535 : Int) < (hdr1 ++ recB r).length
  · simp -implicitDefEqProofs only [x_q, x_o, x_b, x_k, x_x, x_r, x_it, x_if, x_p, p_nil, p_on, p_off, p_mv, p_pk, p_bn, p_un, p_be, p_nl, p_eqa, p_ci, p_cbs, p_csb, p_ex, p_bd, p_fd, p_ix, p_ixa, p_ss, p_sl, p_sla, p_ln, p_lns, p_lnm, p_al, p_bx, p_lal, p_lbx, p_ld, p_st, p_fa, p_ia, p_iaa, p_bs, p_lbs, p_mk, p_ap, p_cp, p_cl, p_cv, p_mf, p_nc, p_mm, p_mkm, p_lk, p_mu, p_dl, p_rs, p_nx, cfC, lgPut, isOk, rv, rh, Bool.false_eq_true, d_nil, d_on, d_off, d_mv, d_pk, d_bn, d_un, d_be, d_nl, d_eqa, d_ci, d_cbs, d_csb, d_ex, d_bd, d_fd, d_ix, d_ixa, d_ss, d_sl, d_sla, d_ln, d_lns, d_lnm, d_al, d_bx, d_lal, d_lbx, d_ld, d_st, d_fa, d_ia, d_iaa, d_bs, d_lbs, d_mk, d_ap, d_cp, d_cl, d_cv, d_mf, d_nc, d_mm, d_mkm, d_lk, d_mu, d_dl, d_rs, d_nx, okO, vlO, mmO, dsO, putE, args, evT, evs, evO, look, kOps, kSeq, kBlk, keepE, reduceIte, Nat.reduceEqDiff, binC, binV, intC, intV, strC, strV, unC, unV, AV.isI, AV.isB, AV.isS, AV.toI, AV.toK, AV.toS, allOut, o_b, o_i, o_s, o_np, o_pv, o_pe, o_ns, o_sl, o_nm, o_mp, o_nf, o_fn, o_ag, q_b, q_i, q_s, q_np, q_pv, q_pe, q_ns, q_sl, q_nm, q_mp, q_nf, q_fn, q_ag, Bool.and_true, Bool.and_self, Bool.true_and, AV.b.injEq, decide_eq_true_eq, decide_eq_false_iff_not, true_and, and_true, and_self, reduceCtorEq, imp_self, implies_true, forall_const, eq_self, ex_tp, ex_ag, List.getD_cons_zero, List.getD_cons_succ, List.length_cons, List.length_nil, Nat.reduceAdd, Nat.reduceLT, Nat.zero_add, bne_self_eq_false, decide_true, decide_false, eq_self, true_implies, false_implies, forall_const, Bool.true_eq_false, Bool.not_true, Bool.not_false, not_true_eq_false, not_false_eq_true, if_true, if_false, pickV, cond_true, cond_false, boolV, fillEC, fillE, List.replicate, List.set, Mem.newL, Mem.keep, Int.reduceToNat, Nat.reduceSub, List.drop_zero, Int.reduceLE, Int.le_refl, Nat.sub_zero, Mem.newL, Mem.newL, Mem.getL, Mem.hasL, lookL, setL, dropL, keepL, memN, la_faC, la_faV, la_ldC, la_ldX, la_stC, la_stM, partOf, partFits, setEl, setPart, Option.isSome_some, Option.getD_some, List.take_succ_cons, List.take_zero, List.drop_succ_cons, List.drop_zero, List.nil_append, List.cons_append, List.getD_cons_zero, List.getD_cons_succ, List.length_cons, List.length_nil, List.set_cons_zero, List.append_nil, List.drop_nil, List.take_nil, Nat.reduceAdd, Nat.reduceLT, Nat.reduceLeDiff, Nat.zero_add, Nat.add_zero, Nat.lt_add_one, Nat.le_refl, Nat.zero_le, Nat.zero_lt_succ, fillP, fillC, Nat.reduceLeDiff, lgAt, isRd, o4, k1, k2, oo, l1, l2, hl, endK, rsC, rsV, resV]
    refine ⟨e1.trans e2, ?_⟩
    rw [if_pos (by omega)]
  · simp -implicitDefEqProofs only [x_q, x_o, x_b, x_k, x_x, x_r, x_it, x_if, x_p, p_nil, p_on, p_off, p_mv, p_pk, p_bn, p_un, p_be, p_nl, p_eqa, p_ci, p_cbs, p_csb, p_ex, p_bd, p_fd, p_ix, p_ixa, p_ss, p_sl, p_sla, p_ln, p_lns, p_lnm, p_al, p_bx, p_lal, p_lbx, p_ld, p_st, p_fa, p_ia, p_iaa, p_bs, p_lbs, p_mk, p_ap, p_cp, p_cl, p_cv, p_mf, p_nc, p_mm, p_mkm, p_lk, p_mu, p_dl, p_rs, p_nx, cfC, lgPut, isOk, rv, rh, Bool.false_eq_true, d_nil, d_on, d_off, d_mv, d_pk, d_bn, d_un, d_be, d_nl, d_eqa, d_ci, d_cbs, d_csb, d_ex, d_bd, d_fd, d_ix, d_ixa, d_ss, d_sl, d_sla, d_ln, d_lns, d_lnm, d_al, d_bx, d_lal, d_lbx, d_ld, d_st, d_fa, d_ia, d_iaa, d_bs, d_lbs, d_mk, d_ap, d_cp, d_cl, d_cv, d_mf, d_nc, d_mm, d_mkm, d_lk, d_mu, d_dl, d_rs, d_nx, okO, vlO, mmO, dsO, putE, args, evT, evs, evO, look, kOps, kSeq, kBlk, keepE, reduceIte, Nat.reduceEqDiff, binC, binV, intC, intV, strC, strV, unC, unV, AV.isI, AV.isB, AV.isS, AV.toI, AV.toK, AV.toS, allOut, o_b, o_i, o_s, o_np, o_pv, o_pe, o_ns, o_sl, o_nm, o_mp, o_nf, o_fn, o_ag, q_b, q_i, q_s, q_np, q_pv, q_pe, q_ns, q_sl, q_nm, q_mp, q_nf, q_fn, q_ag, Bool.and_true, Bool.and_self, Bool.true_and, AV.b.injEq, decide_eq_true_eq, decide_eq_false_iff_not, true_and, and_true, and_self, reduceCtorEq, imp_self, implies_true, forall_const, eq_self, ex_tp, ex_ag, List.getD_cons_zero, List.getD_cons_succ, List.length_cons, List.length_nil, Nat.reduceAdd, Nat.reduceLT, Nat.zero_add, bne_self_eq_false, decide_true, decide_false, eq_self, true_implies, false_implies, forall_const, Bool.true_eq_false, Bool.not_true, Bool.not_false, not_true_eq_false, not_false_eq_true, if_true, if_false, pickV, cond_true, cond_false, boolV, fillEC, fillE, List.replicate, List.set, Mem.newL, Mem.keep, Int.reduceToNat, Nat.reduceSub, List.drop_zero, Int.reduceLE, Int.le_refl, Nat.sub_zero, Mem.newL, Mem.newL, Mem.getL, Mem.hasL, lookL, setL, dropL, keepL, memN, la_faC, la_faV, la_ldC, la_ldX, la_stC, la_stM, partOf, partFits, setEl, setPart, Option.isSome_some, Option.getD_some, List.take_succ_cons, List.take_zero, List.drop_succ_cons, List.drop_zero, List.nil_append, List.cons_append, List.getD_cons_zero, List.getD_cons_succ, List.length_cons, List.length_nil, List.set_cons_zero, List.append_nil, List.drop_nil, List.take_nil, Nat.reduceAdd, Nat.reduceLT, Nat.reduceLeDiff, Nat.zero_add, Nat.add_zero, Nat.lt_add_one, Nat.le_refl, Nat.zero_le, Nat.zero_lt_succ, fillP, fillC, Nat.reduceLeDiff, lgAt, isRd, o4, k1, k2, oo, l1, l2, hl, endK, rsC, rsV, resV]
    refine ⟨e1.trans e2, ?_⟩
    rw [if_neg (by omega)]
    exact ⟨bv, rfl, b2, fun i hi => Nat.le_trans e1.n (i2 i hi)⟩
end
end Go.Vm

/- Functions' code as literals of the abstract machine, printed by wip/tools/lits.py; the kernel checks each against the translation. -/
namespace Go.Vm
set_option linter.unusedVariables false
set_option linter.unusedSimpArgs false
/-- loop.example/s01858/laws.FnEdns -/
def c_laws_FnEdns : Fn := ⟨1, [(.t 2)],
    .q (.o [.mv 2 (.c (.b false))])
    (.q (.q (.o [.mv 18 (.t 0),
      .ln 19 (.t 18),
      .bn 20 .gtr (.t 19) (.c (.i .i64 1048576))])
    (.i (.t 20) (.q (.o [.mv 2 (.c (.b true))])
    (.r))
    (.k)))
    (.q (.o [.mv 22 (.t 0),
      .cl (some 23) 6 [(.t 22)],
      .mv 21 (.t 23),
      .ex 24 (.t 21) 0,
      .ex 25 (.t 21) 1,
      .ex 26 (.t 21) 2,
      .ex 27 (.t 21) 3,
      .mv 3 (.t 24),
      .mv 4 (.t 25),
      .mv 5 (.t 26),
      .mv 6 (.t 27)])
    (.q (.o [.mv 29 (.t 3),
      .mv 30 (.t 4),
      .mv 31 (.t 5),
      .mv 32 (.t 6),
      .cl (some 33) 7 [(.t 29), (.t 30), (.t 31), (.t 32)],
      .mv 28 (.t 33),
      .ex 34 (.t 28) 0,
      .ex 35 (.t 28) 1,
      .lal 7 (.ag [(.s []), (.i .i64 0), (.i .i64 0), (.i .i64 0), (.s [])]),
      .st (.t 7) (.t 34) 5,
      .mv 8 (.t 35)])
    (.q (.o [.mv 37 (.t 3),
      .mv 38 (.t 4),
      .mv 39 (.t 5),
      .mv 40 (.t 6),
      .cl (some 41) 8 [(.t 37), (.t 38), (.t 39), (.t 40)],
      .mv 36 (.t 41),
      .ex 42 (.t 36) 0,
      .ex 43 (.t 36) 1,
      .lal 9 (.ag [(.s []), (.i .i64 0), (.i .i64 0), (.i .i64 0), (.s [])]),
      .st (.t 9) (.t 42) 5,
      .mv 10 (.t 43)])
    (.q (.q (.o [.mv 44 (.t 8),
      .mv 45 (.t 10),
      .bn 46 .neq (.t 44) (.t 45),
      .mv 47 (.t 46),
      .gd 47 false (.ld 48 (.t 9) (some 5)),
      .gd 47 false (.ld 49 (.t 7) (some 5)),
      .gd 47 false (.eqa 50 true [.s, (.i .i64), (.i .i64), (.i .i64), .s] (.t 48) (.t 49)),
      .pk 51 (.t 47) (.c (.b true)) (.t 50)])
    (.i (.t 51) (.q (.o [.mv 2 (.c (.b false))])
    (.r))
    (.k)))
    (.q (.q (.o [.mv 52 (.t 8),
      .bn 53 .neq (.t 52) (.c (.i .i64 0))])
    (.i (.t 53) (.q (.o [.mv 2 (.c (.b true))])
    (.r))
    (.k)))
    (.q (.o [.ld 55 (.t 9) (some 5),
      .bs 56 (.ag [(.s []), (.i .i64 0), (.i .i64 0), (.i .i64 0), (.s [])]) 5 1 [(0, (.t 55))],
      .bd 57 [(.i .i64 0), (.b false), (.i .i64 0), (.b false), (.b false), (.b false), (.b false), (.b false), (.b false), (.b false), (.i .i64 0), .ns, .ns, .ns, .ns] [(14, 1, (.t 56))],
      .cl (some 58) 9 [(.t 57)],
      .mv 54 (.t 58),
      .ex 59 (.t 54) 0,
      .ex 60 (.t 54) 1,
      .mv 11 (.t 59),
      .mv 12 (.t 60)])
    (.q (.q (.o [.mv 61 (.t 12),
      .bn 62 .eql (.t 61) (.c (.i .i64 11))])
    (.i (.t 62) (.q (.o [.mv 2 (.c (.b true))])
    (.r))
    (.k)))
    (.q (.o [.mv 64 (.t 11),
      .cl (some 65) 10 [(.t 64)],
      .mv 63 (.t 65),
      .ex 66 (.t 63) 0,
      .ex 67 (.t 63) 1,
      .lal 13 (.ag [(.i .i64 0), (.b false), (.i .i64 0), (.b false), (.b false), (.b false), (.b false), (.b false), (.b false), (.b false), (.i .i64 0), .ns, .ns, .ns, .ns]),
      .st (.t 13) (.t 66) 15,
      .mv 14 (.t 67)])
    (.q (.o [.ld 69 (.t 13) (some 15),
      .cl (some 70) 11 [(.t 69)],
      .mv 68 (.t 70),
      .ex 71 (.t 68) 0,
      .ex 72 (.t 68) 1,
      .lal 15 (.ag [(.b false), (.i .i64 0), (.i .i64 0), (.i .i64 0), .ns]),
      .st (.t 15) (.t 71) 5,
      .mv 16 (.t 72)])
    (.q (.q (.o [.mv 73 (.t 12),
      .bn 74 .neq (.t 73) (.c (.i .i64 0)),
      .mv 75 (.t 74),
      .gd 75 false (.mv 76 (.t 14)),
      .gd 75 false (.bn 77 .neq (.t 76) (.c (.i .i64 0))),
      .pk 78 (.t 75) (.c (.b true)) (.t 77),
      .mv 79 (.t 78),
      .gd 79 false (.mv 80 (.t 16)),
      .gd 79 false (.bn 81 .neq (.t 80) (.c (.i .i64 0))),
      .pk 82 (.t 79) (.c (.b true)) (.t 81),
      .mv 83 (.t 82),
      .gd 83 false (.fa 84 (.t 15) 0),
      .gd 83 false (.ld 85 (.t 84) none),
      .gd 83 false (.un 86 .not (.t 85)),
      .pk 87 (.t 83) (.c (.b true)) (.t 86),
      .mv 88 (.t 87),
      .gd 88 false (.fa 89 (.t 15) 1),
      .gd 88 false (.ld 90 (.t 89) none),
      .gd 88 false (.mv 91 (.t 3)),
      .gd 88 false (.bn 92 .neq (.t 90) (.t 91)),
      .pk 93 (.t 88) (.c (.b true)) (.t 92),
      .mv 94 (.t 93),
      .gd 94 false (.fa 95 (.t 15) 3),
      .gd 94 false (.ld 96 (.t 95) none),
      .gd 94 false (.mv 97 (.t 5)),
      .gd 94 false (.bn 98 .neq (.t 96) (.t 97)),
      .pk 99 (.t 94) (.c (.b true)) (.t 98),
      .mv 100 (.t 99),
      .gd 100 false (.fa 101 (.t 15) 2),
      .gd 100 false (.ld 102 (.t 101) none),
      .gd 100 false (.bn 103 .neq (.t 102) (.c (.i .i64 0))),
      .pk 104 (.t 100) (.c (.b true)) (.t 103),
      .mv 105 (.t 104),
      .gd 105 false (.fa 106 (.t 15) 4),
      .gd 105 false (.ld 107 (.t 106) none),
      .gd 105 false (.ln 108 (.t 107)),
      .gd 105 false (.mv 109 (.t 6)),
      .gd 105 false (.ln 110 (.t 109)),
      .gd 105 false (.bn 111 .neq (.t 108) (.t 110)),
      .pk 112 (.t 105) (.c (.b true)) (.t 111)])
    (.i (.t 112) (.q (.o [.mv 2 (.c (.b false))])
    (.r))
    (.k)))
    (.q (.q (.o [.mv 17 (.c (.i .i64 0))])
    (.b 0 (.l [6, 15, 17] (.q (.q (.o [.mv 113 (.t 17),
      .mv 114 (.t 6),
      .ln 115 (.t 114),
      .bn 116 .lss (.t 113) (.t 115)])
    (.i (.t 116) (.k)
    (.x 0)))
    (.q (.b 1 (.q (.p [⟨.fa 119 (.t 15) 4, [], false⟩,
      ⟨.ld 120 (.t 119) none, [], false⟩,
      ⟨.mv 121 (.t 17), [], false⟩,
      ⟨.ia 122 (.t 120) (.t 121) 2, [], false⟩,
      ⟨.ld 123 (.t 122) (some 2), [], false⟩,
      ⟨.mv 124 (.t 6), [], false⟩,
      ⟨.mv 125 (.t 17), [], false⟩,
      ⟨.ia 126 (.t 124) (.t 125) 2, [], false⟩,
      ⟨.ld 127 (.t 126) (some 2), [], false⟩,
      ⟨.eqa 128 true [(.i .i64), .s] (.t 123) (.t 127), [], false⟩])
    (.i (.t 128) (.q (.o [.mv 2 (.c (.b false))])
    (.r))
    (.k))))
    (.o [.mv 117 (.t 17),
      .bn 118 .add (.t 117) (.c (.i .i64 1)),
      .mv 17 (.t 118)]))))))
    (.q (.o [.mv 2 (.c (.b true))])
    (.r))))))))))))))⟩
abbrev n_laws_FnEdns : Nat := 3
theorem k_laws_FnEdns : chkF Go.Proofs.Tryd.prog c_laws_FnEdns 3 = true := by kernel_rfl
/-- loop.example/s01858/impl.Decode -/
def c_impl_Decode : Fn := ⟨1, [(.c 2 (some 15)), (.t 3)],
    .q (.o [.lal 2 (.ag [(.i .i64 0), (.b false), (.i .i64 0), (.b false), (.b false), (.b false), (.b false), (.b false), (.b false), (.b false), (.i .i64 0), .ns, .ns, .ns, .ns]),
      .mv 3 (.c (.i .i64 0))])
    (.q (.q (.o [.mv 14 (.t 0),
      .ln 15 (.t 14),
      .bn 16 .gtr (.t 15) (.c (.i .i64 65535))])
    (.i (.t 16) (.q (.o [.bd 17 [(.i .i64 0), (.b false), (.i .i64 0), (.b false), (.b false), (.b false), (.b false), (.b false), (.b false), (.b false), (.i .i64 0), .ns, .ns, .ns, .ns] [],
      .st (.t 2) (.t 17) 15,
      .mv 3 (.c (.i .i64 11))])
    (.r))
    (.k)))
    (.q (.o [.mv 19 (.t 0),
      .cl (some 20) 32 [(.t 19)],
      .mv 18 (.t 20),
      .ex 21 (.t 18) 0,
      .ex 22 (.t 18) 1,
      .ex 23 (.t 18) 2,
      .lal 4 (.ag [(.i .i64 0), (.b false), (.i .i64 0), (.b false), (.b false), (.b false), (.b false), (.b false), (.b false), (.b false), (.i .i64 0)]),
      .lal 5 (.ag [(.i .i64 0), (.i .i64 0), (.i .i64 0), (.i .i64 0)]),
      .st (.t 4) (.t 21) 11,
      .st (.t 5) (.t 22) 4,
      .mv 6 (.t 23)])
    (.q (.q (.o [.mv 24 (.t 6),
      .bn 25 .neq (.t 24) (.c (.i .i64 0))])
    (.i (.t 25) (.q (.o [.bd 26 [(.i .i64 0), (.b false), (.i .i64 0), (.b false), (.b false), (.b false), (.b false), (.b false), (.b false), (.b false), (.i .i64 0), .ns, .ns, .ns, .ns] [],
      .mv 27 (.t 6),
      .st (.t 2) (.t 26) 15,
      .mv 3 (.t 27)])
    (.r))
    (.k)))
    (.q (.q (.o [.iaa 28 (.t 5) (.c (.i .i64 0)) 4 1,
      .ld 29 (.t 28) none,
      .iaa 30 (.t 5) (.c (.i .i64 1)) 4 1,
      .ld 31 (.t 30) none,
      .bn 32 .add (.t 29) (.t 31),
      .iaa 33 (.t 5) (.c (.i .i64 2)) 4 1,
      .ld 34 (.t 33) none,
      .bn 35 .add (.t 32) (.t 34),
      .iaa 36 (.t 5) (.c (.i .i64 3)) 4 1,
      .ld 37 (.t 36) none,
      .bn 38 .add (.t 35) (.t 37),
      .bn 39 .gtr (.t 38) (.c (.i .i64 400))])
    (.i (.t 39) (.q (.o [.bd 40 [(.i .i64 0), (.b false), (.i .i64 0), (.b false), (.b false), (.b false), (.b false), (.b false), (.b false), (.b false), (.i .i64 0), .ns, .ns, .ns, .ns] [],
      .st (.t 2) (.t 40) 15,
      .mv 3 (.c (.i .i64 12))])
    (.r))
    (.k)))
    (.q (.o [.mv 41 (.t 0),
      .bd 42 [.ns, (.i .i64 0), (.i .i64 0)] [(0, 1, (.t 41)), (1, 1, (.c (.i .i64 12)))],
      .bx 43 (.t 42),
      .mv 7 (.t 43)])
    (.q (.o [.ld 44 (.t 4) (some 11),
      .bd 45 [(.i .i64 0), (.b false), (.i .i64 0), (.b false), (.b false), (.b false), (.b false), (.b false), (.b false), (.b false), (.i .i64 0), .ns, .ns, .ns, .ns] [(0, 11, (.t 44))],
      .al 8 15 [(.ag [(.i .i64 0), (.b false), (.i .i64 0), (.b false), (.b false), (.b false), (.b false), (.b false), (.b false), (.b false), (.i .i64 0), .ns, .ns, .ns, .ns])],
      .st (.t 8) (.t 45) 15])
    (.q (.q (.o [.mv 9 (.c (.i .i64 0))])
    (.b 0 (.l [0, 2, 5, 7, 8, 9] (.q (.q (.o [.mv 46 (.t 9),
      .iaa 47 (.t 5) (.c (.i .i64 0)) 4 1,
      .ld 48 (.t 47) none,
      .bn 49 .lss (.t 46) (.t 48),
      .mv 50 (.t 49),
      .gd 50 true (.mv 51 (.t 7)),
      .gd 50 true (.nc 52 (.t 51)),
      .gd 50 true (.fa 53 (.t 52) 2),
      .gd 50 true (.ld 54 (.t 53) none),
      .gd 50 true (.bn 55 .eql (.t 54) (.c (.i .i64 0))),
      .pk 56 (.t 50) (.t 55) (.c (.b false))])
    (.i (.t 56) (.k)
    (.x 0)))
    (.q (.b 1 (.q (.o [.mv 59 (.t 7),
      .cl (some 60) 33 [(.t 59)],
      .bd 61 [(.s []), (.i .i64 0), (.i .i64 0)] [(0, 1, (.t 60))],
      .lal 10 (.ag [(.s []), (.i .i64 0), (.i .i64 0)]),
      .st (.t 10) (.t 61) 3])
    (.q (.o [.mv 62 (.t 7),
      .cl (some 63) 35 [(.t 62), (.c (.i .i64 2))],
      .cl (some 64) 34 [(.t 63)],
      .fa 65 (.t 10) 1,
      .st (.t 65) (.t 64) 1])
    (.q (.o [.mv 66 (.t 7),
      .cl (some 67) 35 [(.t 66), (.c (.i .i64 2))],
      .cl (some 68) 34 [(.t 67)],
      .fa 69 (.t 10) 2,
      .st (.t 69) (.t 68) 1])
    (.o [.fa 70 (.t 8) 11,
      .ld 71 (.t 70) none,
      .ld 72 (.t 10) (some 3),
      .lbs 73 (.ag [(.s []), (.i .i64 0), (.i .i64 0)]) 3 1 [(0, (.t 72))],
      .ap 74 (.t 71) (.t 73) 3 32,
      .fa 75 (.t 8) 11,
      .st (.t 75) (.t 74) 1])))))
    (.o [.mv 57 (.t 9),
      .bn 58 .add (.t 57) (.c (.i .i64 1)),
      .mv 9 (.t 58)]))))))
    (.q (.q (.o [.fa 76 (.t 8) 12,
      .fa 77 (.t 8) 13,
      .fa 78 (.t 8) 14,
      .lbs 79 .np 1 3 [(0, (.t 76)), (1, (.t 77)), (2, (.t 78))],
      .ln 80 (.t 79),
      .mv 81 (.c (.i .i64 0))])
    (.b 2 (.l [0, 2, 5, 7, 8, 79, 80, 81] (.q (.o [.bn 82 .lss (.t 81) (.t 80)])
    (.q (.i (.t 82) (.k)
    (.x 2))
    (.q (.b 3 (.q (.o [.mv 83 (.t 81),
      .ia 84 (.t 79) (.t 81) 1,
      .ld 85 (.t 84) none,
      .mv 11 (.t 83),
      .mv 12 (.t 85)])
    (.q (.o [.mv 13 (.c (.i .i64 0))])
    (.b 4 (.l [0, 2, 5, 7, 8, 11, 12, 13, 79, 80, 81] (.q (.q (.o [.mv 86 (.t 13),
      .mv 87 (.t 11),
      .bn 88 .add (.t 87) (.c (.i .i64 1)),
      .iaa 89 (.t 5) (.t 88) 4 1,
      .ld 90 (.t 89) none,
      .bn 91 .lss (.t 86) (.t 90),
      .mv 92 (.t 91),
      .gd 92 true (.mv 93 (.t 7)),
      .gd 92 true (.nc 94 (.t 93)),
      .gd 92 true (.fa 95 (.t 94) 2),
      .gd 92 true (.ld 96 (.t 95) none),
      .gd 92 true (.bn 97 .eql (.t 96) (.c (.i .i64 0))),
      .pk 98 (.t 92) (.t 97) (.c (.b false))])
    (.i (.t 98) (.k)
    (.x 4)))
    (.q (.b 5 (.p [⟨.mv 101 (.t 12), [], false⟩,
      ⟨.mv 102 (.t 12), [], false⟩,
      ⟨.nc 103 (.t 102), [], false⟩,
      ⟨.ld 104 (.t 103) none, [], true⟩,
      ⟨.mv 105 (.t 7), [], false⟩,
      ⟨.cl (some 106) 36 [(.t 105)], [3], false⟩,
      ⟨.lbs 107 (.ag [(.s []), (.i .i64 0), (.i .i64 0), (.i .i64 0), (.s [])]) 5 1 [(0, (.t 106))], [3], false⟩,
      ⟨.ap 108 (.t 104) (.t 107) 5 56, [], false⟩,
      ⟨.nc 109 (.t 101), [], false⟩,
      ⟨.st (.t 109) (.t 108) 1, [], false⟩]))
    (.o [.mv 99 (.t 13),
      .bn 100 .add (.t 99) (.c (.i .i64 1)),
      .mv 13 (.t 100)]))))))))
    (.o [.bn 110 .add (.t 81) (.c (.i .i64 1)),
      .mv 81 (.t 110)])))))))
    (.q (.q (.o [.mv 111 (.t 7),
      .nc 112 (.t 111),
      .fa 113 (.t 112) 2,
      .ld 114 (.t 113) none,
      .bn 115 .neq (.t 114) (.c (.i .i64 0))])
    (.i (.t 115) (.q (.p [⟨.bd 116 [(.i .i64 0), (.b false), (.i .i64 0), (.b false), (.b false), (.b false), (.b false), (.b false), (.b false), (.b false), (.i .i64 0), .ns, .ns, .ns, .ns] [], [], false⟩,
      ⟨.mv 117 (.t 7), [], false⟩,
      ⟨.nc 118 (.t 117), [], false⟩,
      ⟨.fa 119 (.t 118) 2, [], false⟩,
      ⟨.ld 120 (.t 119) none, [], true⟩,
      ⟨.st (.t 2) (.t 116) 15, [4], false⟩,
      ⟨.mv 3 (.t 120), [], false⟩])
    (.r))
    (.k)))
    (.q (.q (.o [.mv 121 (.t 7),
      .nc 122 (.t 121),
      .fa 123 (.t 122) 1,
      .ld 124 (.t 123) none,
      .mv 125 (.t 0),
      .ln 126 (.t 125),
      .bn 127 .neq (.t 124) (.t 126)])
    (.i (.t 127) (.q (.o [.bd 128 [(.i .i64 0), (.b false), (.i .i64 0), (.b false), (.b false), (.b false), (.b false), (.b false), (.b false), (.b false), (.i .i64 0), .ns, .ns, .ns, .ns] [],
      .st (.t 2) (.t 128) 15,
      .mv 3 (.c (.i .i64 10))])
    (.r))
    (.k)))
    (.q (.o [.ld 129 (.t 8) (some 15),
      .st (.t 2) (.t 129) 15,
      .mv 3 (.c (.i .i64 0))])
    (.r))))))))))))⟩
abbrev n_impl_Decode : Nat := 10
theorem k_impl_Decode : chkF Go.Proofs.Tryd.prog c_impl_Decode 10 = true := by kernel_rfl
/-- loop.example/s01858/impl.DecodeHead -/
def c_impl_DecodeHead : Fn := ⟨1, [(.c 2 (some 11)), (.c 3 (some 4)), (.t 4)],
    .q (.o [.lal 2 (.ag [(.i .i64 0), (.b false), (.i .i64 0), (.b false), (.b false), (.b false), (.b false), (.b false), (.b false), (.b false), (.i .i64 0)]),
      .lal 3 (.ag [(.i .i64 0), (.i .i64 0), (.i .i64 0), (.i .i64 0)]),
      .mv 4 (.c (.i .i64 0))])
    (.q (.q (.o [.mv 8 (.t 0),
      .ln 9 (.t 8),
      .bn 10 .lss (.t 9) (.c (.i .i64 12))])
    (.i (.t 10) (.q (.o [.bd 11 [(.i .i64 0), (.b false), (.i .i64 0), (.b false), (.b false), (.b false), (.b false), (.b false), (.b false), (.b false), (.i .i64 0)] [],
      .bd 12 [(.i .i64 0), (.i .i64 0), (.i .i64 0), (.i .i64 0)] [],
      .st (.t 2) (.t 11) 11,
      .st (.t 3) (.t 12) 4,
      .mv 4 (.c (.i .i64 8))])
    (.r))
    (.k)))
    (.q (.o [.mv 13 (.t 0),
      .sl 14 (.t 13) none (some (.c (.i .i64 12))) 1,
      .cbs 15 (.t 14),
      .mv 5 (.t 15)])
    (.q (.o [.mv 16 (.t 5),
      .ss 17 (.t 16) (some (.c (.i .i64 2))) none,
      .cl (some 18) 34 [(.t 17)],
      .mv 6 (.t 18)])
    (.q (.o [.mv 19 (.t 5),
      .cl (some 20) 34 [(.t 19)],
      .mv 21 (.t 6),
      .cl (some 22) 66 [(.t 21), (.c (.i .u64 15))],
      .mv 23 (.t 6),
      .bn 24 .shr (.t 23) (.c (.i .u64 11)),
      .bn 25 .and (.t 24) (.c (.i .i64 15)),
      .mv 26 (.t 6),
      .cl (some 27) 66 [(.t 26), (.c (.i .u64 10))],
      .mv 28 (.t 6),
      .cl (some 29) 66 [(.t 28), (.c (.i .u64 9))],
      .mv 30 (.t 6),
      .cl (some 31) 66 [(.t 30), (.c (.i .u64 8))],
      .mv 32 (.t 6),
      .cl (some 33) 66 [(.t 32), (.c (.i .u64 7))],
      .mv 34 (.t 6),
      .cl (some 35) 66 [(.t 34), (.c (.i .u64 6))],
      .mv 36 (.t 6),
      .cl (some 37) 66 [(.t 36), (.c (.i .u64 5))],
      .mv 38 (.t 6),
      .cl (some 39) 66 [(.t 38), (.c (.i .u64 4))],
      .mv 40 (.t 6),
      .bn 41 .and (.t 40) (.c (.i .i64 15)),
      .bd 42 [(.i .i64 0), (.b false), (.i .i64 0), (.b false), (.b false), (.b false), (.b false), (.b false), (.b false), (.b false), (.i .i64 0)] [(0, 1, (.t 20)), (1, 1, (.t 22)), (2, 1, (.t 25)), (3, 1, (.t 27)), (4, 1, (.t 29)), (5, 1, (.t 31)), (6, 1, (.t 33)), (7, 1, (.t 35)), (8, 1, (.t 37)), (9, 1, (.t 39)), (10, 1, (.t 41))],
      .lal 7 (.ag [(.i .i64 0), (.b false), (.i .i64 0), (.b false), (.b false), (.b false), (.b false), (.b false), (.b false), (.b false), (.i .i64 0)]),
      .st (.t 7) (.t 42) 11])
    (.q (.p [⟨.ld 43 (.t 7) (some 11), [], true⟩,
      ⟨.mv 44 (.t 5), [], false⟩,
      ⟨.ss 45 (.t 44) (some (.c (.i .i64 4))) none, [], false⟩,
      ⟨.cl (some 46) 34 [(.t 45)], [0], false⟩,
      ⟨.mv 47 (.t 5), [], false⟩,
      ⟨.ss 48 (.t 47) (some (.c (.i .i64 6))) none, [], false⟩,
      ⟨.cl (some 49) 34 [(.t 48)], [0], false⟩,
      ⟨.mv 50 (.t 5), [], false⟩,
      ⟨.ss 51 (.t 50) (some (.c (.i .i64 8))) none, [], false⟩,
      ⟨.cl (some 52) 34 [(.t 51)], [0], false⟩,
      ⟨.mv 53 (.t 5), [], false⟩,
      ⟨.ss 54 (.t 53) (some (.c (.i .i64 10))) none, [], false⟩,
      ⟨.cl (some 55) 34 [(.t 54)], [0], false⟩,
      ⟨.bd 56 [(.i .i64 0), (.i .i64 0), (.i .i64 0), (.i .i64 0)] [(0, 1, (.t 46)), (1, 1, (.t 49)), (2, 1, (.t 52)), (3, 1, (.t 55))], [], false⟩,
      ⟨.st (.t 2) (.t 43) 11, [], false⟩,
      ⟨.st (.t 3) (.t 56) 4, [], false⟩,
      ⟨.mv 4 (.c (.i .i64 0)), [], false⟩])
    (.r))))))⟩
abbrev n_impl_DecodeHead : Nat := 32
theorem k_impl_DecodeHead : chkF Go.Proofs.Tryd.prog c_impl_DecodeHead 32 = true := by kernel_rfl
/-- (*loop.example/s01858/impl.decoder).name -/
def c_impl_decoder_name : Fn := ⟨1, [(.t 2)],
    .q (.o [.mv 2 (.c (.s []))])
    (.q (.q (.o [.mv 6 (.t 0),
      .nc 7 (.t 6),
      .fa 8 (.t 7) 2,
      .ld 9 (.t 8) none,
      .bn 10 .neq (.t 9) (.c (.i .i64 0))])
    (.i (.t 10) (.q (.o [.mv 2 (.c (.s []))])
    (.r))
    (.k)))
    (.q (.p [⟨.mv 12 (.t 0), [], false⟩,
      ⟨.nc 13 (.t 12), [], false⟩,
      ⟨.fa 14 (.t 13) 0, [], false⟩,
      ⟨.ld 15 (.t 14) none, [], false⟩,
      ⟨.mv 16 (.t 0), [], false⟩,
      ⟨.nc 17 (.t 16), [], false⟩,
      ⟨.fa 18 (.t 17) 1, [], false⟩,
      ⟨.ld 19 (.t 18) none, [], false⟩,
      ⟨.cl (some 20) 67 [(.t 15), (.t 19)], [], false⟩,
      ⟨.mv 11 (.t 20), [], false⟩,
      ⟨.ex 21 (.t 11) 0, [], false⟩,
      ⟨.ex 22 (.t 11) 1, [], false⟩,
      ⟨.ex 23 (.t 11) 2, [], false⟩,
      ⟨.mv 3 (.t 21), [], false⟩,
      ⟨.mv 4 (.t 22), [], false⟩,
      ⟨.mv 5 (.t 23), [], false⟩])
    (.q (.o [.mv 24 (.t 0),
      .mv 25 (.t 5),
      .nc 26 (.t 24),
      .fa 27 (.t 26) 2,
      .st (.t 27) (.t 25) 1])
    (.q (.q (.o [.mv 28 (.t 5),
      .bn 29 .eql (.t 28) (.c (.i .i64 0))])
    (.i (.t 29) (.o [.mv 30 (.t 0),
      .mv 31 (.t 4),
      .nc 32 (.t 30),
      .fa 33 (.t 32) 1,
      .st (.t 33) (.t 31) 1])
    (.k)))
    (.q (.o [.mv 34 (.t 3),
      .mv 2 (.t 34)])
    (.r))))))⟩
abbrev n_impl_decoder_name : Nat := 33
theorem k_impl_decoder_name : chkF Go.Proofs.Tryd.prog c_impl_decoder_name 33 = true := by kernel_rfl
/-- (*loop.example/s01858/impl.decoder).take -/
def c_impl_decoder_take : Fn := ⟨2, [(.t 4)],
    .q (.o [.mv 4 (.c (.s []))])
    (.q (.q (.p [⟨.mv 5 (.t 0), [], false⟩,
      ⟨.nc 6 (.t 5), [], false⟩,
      ⟨.fa 7 (.t 6) 2, [], false⟩,
      ⟨.ld 8 (.t 7) none, [], false⟩,
      ⟨.bn 9 .eql (.t 8) (.c (.i .i64 0)), [], false⟩,
      ⟨.mv 10 (.t 9), [], false⟩,
      ⟨.gd 10 true (.mv 11 (.t 0)), [], false⟩,
      ⟨.gd 10 true (.nc 12 (.t 11)), [], false⟩,
      ⟨.gd 10 true (.fa 13 (.t 12) 1), [], false⟩,
      ⟨.gd 10 true (.ld 14 (.t 13) none), [], false⟩,
      ⟨.gd 10 true (.mv 15 (.t 1)), [], false⟩,
      ⟨.gd 10 true (.bn 16 .add (.t 14) (.t 15)), [], false⟩,
      ⟨.gd 10 true (.mv 17 (.t 0)), [], false⟩,
      ⟨.gd 10 true (.nc 18 (.t 17)), [], false⟩,
      ⟨.gd 10 true (.fa 19 (.t 18) 0), [], false⟩,
      ⟨.gd 10 true (.ld 20 (.t 19) none), [], false⟩,
      ⟨.gd 10 true (.ln 21 (.t 20)), [], false⟩,
      ⟨.gd 10 true (.bn 22 .gtr (.t 16) (.t 21)), [], false⟩,
      ⟨.pk 23 (.t 10) (.t 22) (.c (.b false)), [], false⟩])
    (.i (.t 23) (.o [.mv 24 (.t 0),
      .nc 25 (.t 24),
      .fa 26 (.t 25) 2,
      .st (.t 26) (.c (.i .i64 8)) 1])
    (.k)))
    (.q (.q (.o [.mv 27 (.t 0),
      .nc 28 (.t 27),
      .fa 29 (.t 28) 2,
      .ld 30 (.t 29) none,
      .bn 31 .neq (.t 30) (.c (.i .i64 0))])
    (.i (.t 31) (.q (.o [.mv 32 (.t 1),
      .mk 33 (.i .u8 0) 1 1 (.t 32),
      .cbs 34 (.t 33),
      .mv 4 (.t 34)])
    (.r))
    (.k)))
    (.q (.o [.mv 35 (.t 0),
      .nc 36 (.t 35),
      .fa 37 (.t 36) 1,
      .ld 38 (.t 37) none,
      .mv 39 (.t 1),
      .bn 40 .add (.t 38) (.t 39),
      .nc 41 (.t 35),
      .fa 42 (.t 41) 1,
      .st (.t 42) (.t 40) 1])
    (.q (.p [⟨.mv 43 (.t 0), [], false⟩,
      ⟨.nc 44 (.t 43), [], false⟩,
      ⟨.fa 45 (.t 44) 0, [], false⟩,
      ⟨.ld 46 (.t 45) none, [], false⟩,
      ⟨.mv 47 (.t 0), [], false⟩,
      ⟨.nc 48 (.t 47), [], false⟩,
      ⟨.fa 49 (.t 48) 1, [], false⟩,
      ⟨.ld 50 (.t 49) none, [], false⟩,
      ⟨.mv 51 (.t 1), [], false⟩,
      ⟨.bn 52 .sub (.t 50) (.t 51), [], false⟩,
      ⟨.mv 53 (.t 0), [], false⟩,
      ⟨.nc 54 (.t 53), [], false⟩,
      ⟨.fa 55 (.t 54) 1, [], false⟩,
      ⟨.ld 56 (.t 55) none, [], false⟩,
      ⟨.sl 57 (.t 46) (some (.t 52)) (some (.t 56)) 1, [], false⟩,
      ⟨.cbs 58 (.t 57), [], false⟩,
      ⟨.mv 4 (.t 58), [], false⟩])
    (.r)))))⟩
abbrev n_impl_decoder_take : Nat := 35
theorem k_impl_decoder_take : chkF Go.Proofs.Tryd.prog c_impl_decoder_take 35 = true := by kernel_rfl
/-- (*loop.example/s01858/impl.decoder).record -/
def c_impl_decoder_record : Fn := ⟨1, [(.c 2 (some 5))],
    .q (.o [.lal 2 (.ag [(.s []), (.i .i64 0), (.i .i64 0), (.i .i64 0), (.s [])])])
    (.q (.o [.mv 8 (.t 0),
      .cl (some 9) 33 [(.t 8)],
      .bd 10 [(.s []), (.i .i64 0), (.i .i64 0), (.i .i64 0), (.s [])] [(0, 1, (.t 9))],
      .lal 3 (.ag [(.s []), (.i .i64 0), (.i .i64 0), (.i .i64 0), (.s [])]),
      .st (.t 3) (.t 10) 5])
    (.q (.o [.mv 11 (.t 0),
      .cl (some 12) 35 [(.t 11), (.c (.i .i64 2))],
      .cl (some 13) 34 [(.t 12)],
      .fa 14 (.t 3) 1,
      .st (.t 14) (.t 13) 1])
    (.q (.o [.mv 15 (.t 0),
      .cl (some 16) 35 [(.t 15), (.c (.i .i64 2))],
      .cl (some 17) 34 [(.t 16)],
      .fa 18 (.t 3) 2,
      .st (.t 18) (.t 17) 1])
    (.q (.o [.mv 19 (.t 0),
      .cl (some 20) 35 [(.t 19), (.c (.i .i64 4))],
      .cl (some 21) 68 [(.t 20)],
      .fa 22 (.t 3) 3,
      .st (.t 22) (.t 21) 1])
    (.q (.o [.mv 23 (.t 0),
      .cl (some 24) 35 [(.t 23), (.c (.i .i64 2))],
      .cl (some 25) 34 [(.t 24)],
      .mv 4 (.t 25)])
    (.q (.q (.o [.mv 26 (.t 0),
      .nc 27 (.t 26),
      .fa 28 (.t 27) 2,
      .ld 29 (.t 28) none,
      .bn 30 .neq (.t 29) (.c (.i .i64 0))])
    (.i (.t 30) (.q (.o [.bd 31 [(.s []), (.i .i64 0), (.i .i64 0), (.i .i64 0), (.s [])] [],
      .st (.t 2) (.t 31) 5])
    (.r))
    (.k)))
    (.q (.o [.mv 32 (.t 0),
      .nc 33 (.t 32),
      .fa 34 (.t 33) 1,
      .ld 35 (.t 34) none,
      .mv 36 (.t 4),
      .bn 37 .add (.t 35) (.t 36),
      .mv 5 (.t 37)])
    (.q (.q (.o [.mv 38 (.t 5),
      .mv 39 (.t 0),
      .nc 40 (.t 39),
      .fa 41 (.t 40) 0,
      .ld 42 (.t 41) none,
      .ln 43 (.t 42),
      .bn 44 .gtr (.t 38) (.t 43)])
    (.i (.t 44) (.q (.o [.mv 45 (.t 0),
      .nc 46 (.t 45),
      .fa 47 (.t 46) 2,
      .st (.t 47) (.c (.i .i64 8)) 1])
    (.q (.o [.bd 48 [(.s []), (.i .i64 0), (.i .i64 0), (.i .i64 0), (.s [])] [],
      .st (.t 2) (.t 48) 5])
    (.r)))
    (.k)))
    (.q (.q (.o [.mv 49 (.t 4),
      .bn 50 .eql (.t 49) (.c (.i .i64 0))])
    (.i (.t 50) (.q (.o [.ld 51 (.t 3) (some 5),
      .st (.t 2) (.t 51) 5])
    (.r))
    (.k)))
    (.q (.q (.o [.fa 52 (.t 3) 1,
      .ld 53 (.t 52) none,
      .cl (some 54) 69 [(.t 53)],
      .un 55 .not (.t 54)])
    (.i (.t 55) (.o [.mv 56 (.t 0),
      .mv 57 (.t 4),
      .cl (some 58) 35 [(.t 56), (.t 57)],
      .fa 59 (.t 3) 4,
      .st (.t 59) (.t 58) 1])
    (.q (.o [.mv 6 (.c (.i .i64 1))])
    (.q (.o [.mv 7 (.c (.i .i64 0))])
    (.q (.q (.o [.fa 60 (.t 3) 1,
      .ld 61 (.t 60) none])
    (.b 0 (.q (.o [.bn 63 .eql (.t 61) (.c (.i .i64 15)),
      .mv 62 (.t 63)])
    (.i (.t 62) (.o [.mv 7 (.c (.i .i64 2))])
    (.q (.o [.bn 65 .eql (.t 61) (.c (.i .i64 6)),
      .mv 64 (.t 65)])
    (.i (.t 64) (.o [.mv 6 (.c (.i .i64 2))])
    (.k)))))))
    (.q (.q (.o [.mv 66 (.t 7),
      .mv 67 (.t 4),
      .bn 68 .gtr (.t 66) (.t 67)])
    (.i (.t 68) (.q (.o [.mv 69 (.t 0),
      .nc 70 (.t 69),
      .fa 71 (.t 70) 2,
      .st (.t 71) (.c (.i .i64 7)) 1])
    (.q (.o [.bd 72 [(.s []), (.i .i64 0), (.i .i64 0), (.i .i64 0), (.s [])] [],
      .st (.t 2) (.t 72) 5])
    (.r)))
    (.k)))
    (.q (.o [.mv 73 (.t 0),
      .mv 74 (.t 7),
      .cl (some 75) 35 [(.t 73), (.t 74)],
      .fa 76 (.t 3) 4,
      .st (.t 76) (.t 75) 1])
    (.q (.b 1 (.l [0, 2, 3, 5, 6] (.q (.q (.o [.mv 77 (.t 6),
      .bn 78 .gtr (.t 77) (.c (.i .i64 0))])
    (.i (.t 78) (.k)
    (.x 1)))
    (.q (.b 2 (.q (.p [⟨.fa 81 (.t 3) 4, [], false⟩,
      ⟨.ld 82 (.t 81) none, [], true⟩,
      ⟨.mv 83 (.t 0), [], false⟩,
      ⟨.cl (some 84) 33 [(.t 83)], [1], false⟩,
      ⟨.bn 85 .add (.t 82) (.t 84), [], false⟩,
      ⟨.fa 86 (.t 3) 4, [], false⟩,
      ⟨.st (.t 86) (.t 85) 1, [], false⟩])
    (.q (.q (.o [.mv 87 (.t 0),
      .nc 88 (.t 87),
      .fa 89 (.t 88) 2,
      .ld 90 (.t 89) none,
      .bn 91 .neq (.t 90) (.c (.i .i64 0))])
    (.i (.t 91) (.q (.o [.bd 92 [(.s []), (.i .i64 0), (.i .i64 0), (.i .i64 0), (.s [])] [],
      .st (.t 2) (.t 92) 5])
    (.r))
    (.k)))
    (.q (.o [.mv 93 (.t 0),
      .nc 94 (.t 93),
      .fa 95 (.t 94) 1,
      .ld 96 (.t 95) none,
      .mv 97 (.t 5),
      .bn 98 .gtr (.t 96) (.t 97)])
    (.i (.t 98) (.q (.o [.mv 99 (.t 0),
      .nc 100 (.t 99),
      .fa 101 (.t 100) 2,
      .st (.t 101) (.c (.i .i64 7)) 1])
    (.q (.o [.bd 102 [(.s []), (.i .i64 0), (.i .i64 0), (.i .i64 0), (.s [])] [],
      .st (.t 2) (.t 102) 5])
    (.r)))
    (.k))))))
    (.o [.mv 79 (.t 6),
      .bn 80 .sub (.t 79) (.c (.i .i64 1)),
      .mv 6 (.t 80)])))))
    (.p [⟨.fa 103 (.t 3) 4, [], false⟩,
      ⟨.ld 104 (.t 103) none, [], true⟩,
      ⟨.mv 105 (.t 0), [], false⟩,
      ⟨.mv 106 (.t 5), [], false⟩,
      ⟨.mv 107 (.t 0), [], false⟩,
      ⟨.nc 108 (.t 107), [], false⟩,
      ⟨.fa 109 (.t 108) 1, [], false⟩,
      ⟨.ld 110 (.t 109) none, [], false⟩,
      ⟨.bn 111 .sub (.t 106) (.t 110), [], false⟩,
      ⟨.cl (some 112) 35 [(.t 105), (.t 111)], [1], false⟩,
      ⟨.bn 113 .add (.t 104) (.t 112), [], false⟩,
      ⟨.fa 114 (.t 3) 4, [], false⟩,
      ⟨.st (.t 114) (.t 113) 1, [], false⟩])))))))))
    (.q (.q (.o [.fa 115 (.t 3) 1,
      .ld 116 (.t 115) none,
      .fa 117 (.t 3) 4,
      .ld 118 (.t 117) none,
      .cl (some 119) 70 [(.t 116), (.t 118)],
      .bn 120 .neq (.t 119) (.c (.i .i64 0))])
    (.i (.t 120) (.q (.o [.mv 121 (.t 0),
      .nc 122 (.t 121),
      .fa 123 (.t 122) 2,
      .st (.t 123) (.c (.i .i64 7)) 1])
    (.q (.o [.bd 124 [(.s []), (.i .i64 0), (.i .i64 0), (.i .i64 0), (.s [])] [],
      .st (.t 2) (.t 124) 5])
    (.r)))
    (.k)))
    (.q (.o [.ld 125 (.t 3) (some 5),
      .st (.t 2) (.t 125) 5])
    (.r)))))))))))))⟩
abbrev n_impl_decoder_record : Nat := 36
theorem k_impl_decoder_record : chkF Go.Proofs.Tryd.prog c_impl_decoder_record 36 = true := by kernel_rfl
/-- loop.example/s01858/impl.bit -/
def c_impl_bit : Fn := ⟨2, [(.t 4)],
    .q (.o [.mv 4 (.c (.b false))])
    (.q (.o [.mv 5 (.t 0),
      .mv 6 (.t 1),
      .bn 7 .shr (.t 5) (.t 6),
      .bn 8 .and (.t 7) (.c (.i .i64 1)),
      .bn 9 .eql (.t 8) (.c (.i .i64 1)),
      .mv 4 (.t 9)])
    (.r))⟩
abbrev n_impl_bit : Nat := 66
theorem k_impl_bit : chkF Go.Proofs.Tryd.prog c_impl_bit 66 = true := by kernel_rfl
/-- loop.example/s01858/impl.DecodeName -/
def c_impl_DecodeName : Fn := ⟨2, [(.t 4), (.t 5), (.t 6)],
    .q (.o [.mv 4 (.c (.s [])),
      .mv 5 (.c (.i .i64 0)),
      .mv 6 (.c (.i .i64 0))])
    (.q (.q (.o [.mv 13 (.t 1),
      .bn 14 .lss (.t 13) (.c (.i .i64 0)),
      .mv 15 (.t 14),
      .gd 15 false (.mv 16 (.t 1)),
      .gd 15 false (.mv 17 (.t 0)),
      .gd 15 false (.ln 18 (.t 17)),
      .gd 15 false (.bn 19 .gtr (.t 16) (.t 18)),
      .pk 20 (.t 15) (.c (.b true)) (.t 19)])
    (.i (.t 20) (.q (.o [.mv 4 (.c (.s [])),
      .mv 5 (.c (.i .i64 0)),
      .mv 6 (.c (.i .i64 32))])
    (.r))
    (.k)))
    (.q (.o [.mv 21 (.t 1),
      .mv 22 (.t 1),
      .mv 7 (.t 21),
      .mv 8 (.t 22)])
    (.q (.o [.mv 9 (.c (.i .i64 (-1)))])
    (.q (.o [.mv 10 (.c .ns)])
    (.b 0 (.l [0, 7, 8, 9, 10] (.b 1 (.q (.q (.o [.mv 23 (.t 7),
      .mv 24 (.t 0),
      .ln 25 (.t 24),
      .bn 26 .geq (.t 23) (.t 25)])
    (.i (.t 26) (.q (.o [.mv 4 (.c (.s [])),
      .mv 5 (.c (.i .i64 0)),
      .mv 6 (.c (.i .i64 8))])
    (.r))
    (.k)))
    (.q (.o [.mv 27 (.t 0),
      .mv 28 (.t 7),
      .ia 29 (.t 27) (.t 28) 1,
      .ld 30 (.t 29) none,
      .ci 31 .i64 (.t 30),
      .mv 11 (.t 31)])
    (.b 2 (.q (.o [.mv 57 (.t 11),
      .bn 58 .eql (.t 57) (.c (.i .i64 0)),
      .mv 56 (.t 58)])
    (.i (.t 56) (.q (.q (.o [.mv 59 (.t 9),
      .bn 60 .lss (.t 59) (.c (.i .i64 0))])
    (.i (.t 60) (.o [.mv 61 (.t 7),
      .bn 62 .add (.t 61) (.c (.i .i64 1)),
      .mv 9 (.t 62)])
    (.k)))
    (.q (.o [.mv 63 (.t 10),
      .lbs 64 (.i .u8 0) 1 1 [(0, (.c (.i .u8 0)))],
      .ap 65 (.t 63) (.t 64) 1 1,
      .cbs 66 (.t 65),
      .mv 67 (.t 9),
      .mv 4 (.t 66),
      .mv 5 (.t 67),
      .mv 6 (.c (.i .i64 0))])
    (.r)))
    (.q (.o [.mv 69 (.t 11),
      .bn 70 .leq (.t 69) (.c (.i .i64 63)),
      .mv 68 (.t 70)])
    (.i (.t 68) (.q (.q (.o [.mv 71 (.t 7),
      .bn 72 .add (.t 71) (.c (.i .i64 1)),
      .mv 73 (.t 11),
      .bn 74 .add (.t 72) (.t 73),
      .mv 75 (.t 0),
      .ln 76 (.t 75),
      .bn 77 .gtr (.t 74) (.t 76)])
    (.i (.t 77) (.q (.o [.mv 4 (.c (.s [])),
      .mv 5 (.c (.i .i64 0)),
      .mv 6 (.c (.i .i64 8))])
    (.r))
    (.k)))
    (.q (.o [.mv 78 (.t 10),
      .mv 79 (.t 0),
      .mv 80 (.t 7),
      .mv 81 (.t 7),
      .bn 82 .add (.t 81) (.c (.i .i64 1)),
      .mv 83 (.t 11),
      .bn 84 .add (.t 82) (.t 83),
      .sl 85 (.t 79) (some (.t 80)) (some (.t 84)) 1,
      .ap 86 (.t 78) (.t 85) 1 1,
      .mv 10 (.t 86)])
    (.q (.q (.o [.mv 87 (.t 10),
      .ln 88 (.t 87),
      .bn 89 .add (.t 88) (.c (.i .i64 1)),
      .bn 90 .gtr (.t 89) (.c (.i .i64 255))])
    (.i (.t 90) (.q (.o [.mv 4 (.c (.s [])),
      .mv 5 (.c (.i .i64 0)),
      .mv 6 (.c (.i .i64 3))])
    (.r))
    (.k)))
    (.o [.mv 91 (.t 7),
      .mv 92 (.t 11),
      .bn 93 .add (.c (.i .i64 1)) (.t 92),
      .bn 94 .add (.t 91) (.t 93),
      .mv 7 (.t 94)]))))
    (.q (.o [.mv 96 (.t 11),
      .bn 97 .lss (.t 96) (.c (.i .i64 192)),
      .mv 95 (.t 97)])
    (.i (.t 95) (.q (.o [.mv 4 (.c (.s [])),
      .mv 5 (.c (.i .i64 0)),
      .mv 6 (.c (.i .i64 2))])
    (.r))
    (.q (.q (.o [.mv 32 (.t 7),
      .bn 33 .add (.t 32) (.c (.i .i64 1)),
      .mv 34 (.t 0),
      .ln 35 (.t 34),
      .bn 36 .geq (.t 33) (.t 35)])
    (.i (.t 36) (.q (.o [.mv 4 (.c (.s [])),
      .mv 5 (.c (.i .i64 0)),
      .mv 6 (.c (.i .i64 8))])
    (.r))
    (.k)))
    (.q (.o [.mv 37 (.t 11),
      .bn 38 .and (.t 37) (.c (.i .i64 63)),
      .bn 39 .shl (.t 38) (.c (.i .u64 8)),
      .mv 40 (.t 0),
      .mv 41 (.t 7),
      .bn 42 .add (.t 41) (.c (.i .i64 1)),
      .ia 43 (.t 40) (.t 42) 1,
      .ld 44 (.t 43) none,
      .ci 45 .i64 (.t 44),
      .bn 46 .or (.t 39) (.t 45),
      .mv 12 (.t 46)])
    (.q (.q (.o [.mv 47 (.t 12),
      .mv 48 (.t 8),
      .bn 49 .geq (.t 47) (.t 48)])
    (.i (.t 49) (.q (.o [.mv 4 (.c (.s [])),
      .mv 5 (.c (.i .i64 0)),
      .mv 6 (.c (.i .i64 9))])
    (.r))
    (.k)))
    (.q (.q (.o [.mv 50 (.t 9),
      .bn 51 .lss (.t 50) (.c (.i .i64 0))])
    (.i (.t 51) (.o [.mv 52 (.t 7),
      .bn 53 .add (.t 52) (.c (.i .i64 2)),
      .mv 9 (.t 53)])
    (.k)))
    (.o [.mv 54 (.t 12),
      .mv 55 (.t 12),
      .mv 7 (.t 54),
      .mv 8 (.t 55)])))))))))))))))))))))⟩
abbrev n_impl_DecodeName : Nat := 67
theorem k_impl_DecodeName : chkF Go.Proofs.Tryd.prog c_impl_DecodeName 67 = true := by kernel_rfl
/-- loop.example/s01858/impl.u32 -/
def c_impl_u32 : Fn := ⟨1, [(.t 2)],
    .q (.o [.mv 2 (.c (.i .i64 0))])
    (.q (.p [⟨.ld 3 (.g 0) (some 0), [], true⟩,
      ⟨.mv 4 (.t 0), [], false⟩,
      ⟨.ss 5 (.t 4) none (some (.c (.i .i64 4))), [], false⟩,
      ⟨.csb 6 (.t 5), [0], false⟩,
      ⟨.cl (some 7) 97 [(.t 3), (.t 6)], [], false⟩,
      ⟨.ci 8 .i64 (.t 7), [], false⟩,
      ⟨.mv 2 (.t 8), [], false⟩])
    (.r))⟩
abbrev n_impl_u32 : Nat := 68
theorem k_impl_u32 : chkF Go.Proofs.Tryd.prog c_impl_u32 68 = true := by kernel_rfl
/-- (encoding/binary.bigEndian).Uint32 -/
def c_binary_bigEndian_Uint32 : Fn := ⟨2, [(.t 4)],
    .q (.o [.lbx 2 (.t 0),
      .mv 4 (.c (.i .u32 0))])
    (.q (.o [.mv 5 (.t 1),
      .ia 6 (.t 5) (.c (.i .i64 3)) 1,
      .ld 7 (.t 6) none])
    (.q (.p [⟨.mv 8 (.t 1), [], false⟩,
      ⟨.ia 9 (.t 8) (.c (.i .i64 3)) 1, [], false⟩,
      ⟨.ld 10 (.t 9) none, [], false⟩,
      ⟨.ci 11 .u32 (.t 10), [], false⟩,
      ⟨.mv 12 (.t 1), [], false⟩,
      ⟨.ia 13 (.t 12) (.c (.i .i64 2)) 1, [], false⟩,
      ⟨.ld 14 (.t 13) none, [], false⟩,
      ⟨.ci 15 .u32 (.t 14), [], false⟩,
      ⟨.bn 16 .shl (.t 15) (.c (.i .u64 8)), [], false⟩,
      ⟨.bn 17 .or (.t 11) (.t 16), [], false⟩,
      ⟨.mv 18 (.t 1), [], false⟩,
      ⟨.ia 19 (.t 18) (.c (.i .i64 1)) 1, [], false⟩,
      ⟨.ld 20 (.t 19) none, [], false⟩,
      ⟨.ci 21 .u32 (.t 20), [], false⟩,
      ⟨.bn 22 .shl (.t 21) (.c (.i .u64 16)), [], false⟩,
      ⟨.bn 23 .or (.t 17) (.t 22), [], false⟩,
      ⟨.mv 24 (.t 1), [], false⟩,
      ⟨.ia 25 (.t 24) (.c (.i .i64 0)) 1, [], false⟩,
      ⟨.ld 26 (.t 25) none, [], false⟩,
      ⟨.ci 27 .u32 (.t 26), [], false⟩,
      ⟨.bn 28 .shl (.t 27) (.c (.i .u64 24)), [], false⟩,
      ⟨.bn 29 .or (.t 23) (.t 28), [], false⟩,
      ⟨.mv 4 (.t 29), [], false⟩])
    (.r)))⟩
abbrev n_binary_bigEndian_Uint32 : Nat := 97
theorem k_binary_bigEndian_Uint32 : chkF Go.Proofs.Tryd.prog c_binary_bigEndian_Uint32 97 = true := by kernel_rfl
end Go.Vm

/- ReadEdns: the pure answer, and the runs of its helpers. -/
namespace Go.Vm
set_option linter.unusedVariables false
set_option linter.unusedSimpArgs false
def isOpt (r : Rr) : Bool := decide (r.t = 41)
def opt1 (d : List UInt8) : Opt := ((num (d.take 2) 0 : Nat), (d.drop 4).take (num ((d.drop 2).take 2) 0))
/-- Options cut off data. -/
def opsD (d : List UInt8) : Option (List Opt) :=
  if h : d = [] then some [] else
  if h2 : d.length < 4 + num ((d.drop 2).take 2) 0 then none else
  (opsD (d.drop (4 + num ((d.drop 2).take 2) 0))).map fun os => opt1 d :: os
termination_by d.length
decreasing_by
  have : d.length ≠ 0 := fun e => h (List.eq_nil_of_length_eq_zero e)
  simp; omega
theorem opsD_nil : opsD [] = some [] := by rw [opsD, dif_pos rfl]
theorem opsD_bad {d : List UInt8} (h : d ≠ []) (h2 : d.length < 4 + num ((d.drop 2).take 2) 0) : opsD d = none := by rw [opsD, dif_neg h, dif_pos h2]
theorem opsD_ok {d : List UInt8} (h : d ≠ []) (h2 : ¬ d.length < 4 + num ((d.drop 2).take 2) 0) : opsD d = (opsD (d.drop (4 + num ((d.drop 2).take 2) 0))).map fun os => opt1 d :: os := by rw [opsD, dif_neg h, dif_neg h2]
structure Ed where
  p : Bool
  sz : Int
  ver : Int
  fl : Int
  os : List Opt
def ed0 : Ed := ⟨false, 0, 0, 0, []⟩
def edV (e : Ed) (a : AV) : AV := .ag [.b e.p, .i .i64 e.sz, .i .i64 e.ver, .i .i64 e.fl, a]
def edR (r : Rr) (os : List Opt) : Ed := ⟨true, r.c, bitw .and .i64 (r.ttl.fdiv (2 ^ (min 16 IntKind.i64.bits))) 255, bitw .and .i64 r.ttl 65535, os⟩
def rdE (m : Msg) : Ed × Int :=
  if (m.an.filter isOpt).length + (m.au.filter isOpt).length > 0 ∨ (m.ex.filter isOpt).length > 1 then (ed0, 32) else
  match m.ex.filter isOpt with
  | [] => (ed0, 0)
  | r :: _ => match opsD r.d with
    | none => (ed0, 32)
    | some os => if r.o = [0] then (edR r os, 0) else (ed0, 32)
def RePost (r : Ed × Int) (H : AH) (v : AV) (H' : AH) : Prop := ∃ a, v = .tp [edV r.1 a, .i .i64 r.2] ∧ Mx H' eO a r.1.os ∧ Ext H H' ∧ ∀ i, i ∈ idA a → H.n ≤ i
theorem RePost.bad {H H' : AH} (h : Ext H H') {k : Int} : RePost (ed0, k) H (.tp [.ag [.b false, .i .i64 0, .i .i64 0, .i .i64 0, .ns], .i .i64 k]) H' := ⟨.ns, rfl, .nil, h, by simp [idA]⟩
def T_l13Count (C : Tab) (f : Nat) : Prop := ∀ (a : AV) (xs : List Rr) (H : AH), Sx H eR a xs → xs.length ≤ 1099511627776 → C f [a, .i .i64 41] H = some (.i .i64 (xs.filter isOpt).length, H)
def optR (r : Option (List Opt)) (H : AH) (v : AV) (H' : AH) : Prop := match r with
  | none => v = .tp [.ns, .b false] ∧ Ext H H'
  | some os => ∃ a, v = .tp [a, .b true] ∧ Mx H' eO a os ∧ Ext H H' ∧ ∀ i, i ∈ idA a → H.n ≤ i
def T_l13Options (C : Tab) (f : Nat) : Prop := ∀ (d : List UInt8) (H : AH), d.length ≤ 1099511627776 → ∃ v H', C f [.s d] H = some (v, H') ∧ optR (opsD d) H v H'
def T_u16 (C : Tab) (f : Nat) : Prop := ∀ (d : List UInt8) (H : AH), 2 ≤ d.length → C f [.s d] H = some (.i .i64 (num (d.take 2) 0 : Nat), H)
def T_eqEdns (C : Tab) (f : Nat) : Prop := ∀ (e : Ed) (a b : AV) (H : AH), Sx H eO a e.os → Sx H eO b e.os → e.os.length ≤ 1099511627776 → C f [edV e a, edV e b] H = some (.b true, H)
def T_markEdns (C : Tab) (f : Nat) : Prop := ∀ (e : Ed) (a : AV) (k : Nat) (H : AH), Mx H eO a e.os → k + 2 * e.os.length ≤ 1099511627776 → ∃ v H', C f [edV e a, .i .i64 k] H = some (v, H') ∧ (v = .i .i64 ((k + 2 * e.os.length : Nat) : Int) ∧ Mx H' eO a (mks mk_Option 2 k e.os.length)) ∧ Kp (idA a) H H'
def T_heldEdns (C : Tab) (f : Nat) : Prop := ∀ (e : Ed) (a : AV) (k c : Nat) (H : AH), Sx H eO a (mks mk_Option 2 k c) → k + 2 * c ≤ 1099511627776 → ∃ v H', C f [edV e a, .i .i64 k] H = some (v, H') ∧ v = .i .i64 ((k + 2 * c : Nat) : Int) ∧ Ext H H'
section
variable {C : Tab}
theorem filt_snoc {xs : List Rr} {i : Nat} (hi : i < xs.length) : (xs.take (i + 1)).filter isOpt = (xs.take i).filter isOpt ++ (if xs[i].t = 41 then [xs[i]] else []) := by
  rw [← List.take_append_getElem hi, List.filter_append]
  by_cases h : xs[i].t = 41 <;> simp [isOpt, h]
theorem r_l13Count {a : AV} {xs : List Rr} {H : AH} (h : Sx H eR a xs) (hn : xs.length ≤ 1099511627776) : Runs C c_spec_l13Count [a, .i .i64 41] H fun v H' => H' = H ∧ v = .i .i64 (xs.filter isOpt).length := by
  unfold Runs c_spec_l13Count
  obtain ⟨h1, h2⟩ := h.len
  simp -implicitDefEqProofs only [x_q, x_o, x_b, x_k, x_x, x_r, x_it, x_if, x_p, p_nil, p_on, p_off, p_mv, p_pk, p_bn, p_un, p_be, p_nl, p_eqa, p_ci, p_cbs, p_csb, p_ex, p_bd, p_fd, p_ix, p_ixa, p_ss, p_sl, p_sla, p_ln, p_lns, p_lnm, p_al, p_bx, p_lal, p_lbx, p_ld, p_st, p_fa, p_ia, p_iaa, p_bs, p_lbs, p_mk, p_ap, p_cp, p_cl, p_cv, p_mf, p_nc, p_mm, p_mkm, p_lk, p_mu, p_dl, p_rs, p_nx, cfC, lgPut, isOk, rv, rh, Bool.false_eq_true, d_nil, d_on, d_off, d_mv, d_pk, d_bn, d_un, d_be, d_nl, d_eqa, d_ci, d_cbs, d_csb, d_ex, d_bd, d_fd, d_ix, d_ixa, d_ss, d_sl, d_sla, d_ln, d_lns, d_lnm, d_al, d_bx, d_lal, d_lbx, d_ld, d_st, d_fa, d_ia, d_iaa, d_bs, d_lbs, d_mk, d_ap, d_cp, d_cl, d_cv, d_mf, d_nc, d_mm, d_mkm, d_lk, d_mu, d_dl, d_rs, d_nx, okO, vlO, mmO, dsO, putE, args, evT, evs, evO, look, kOps, kSeq, kBlk, keepE, reduceIte, Nat.reduceEqDiff, binC, binV, intC, intV, strC, strV, unC, unV, AV.isI, AV.isB, AV.isS, AV.toI, AV.toK, AV.toS, allOut, o_b, o_i, o_s, o_np, o_pv, o_pe, o_ns, o_sl, o_nm, o_mp, o_nf, o_fn, o_ag, q_b, q_i, q_s, q_np, q_pv, q_pe, q_ns, q_sl, q_nm, q_mp, q_nf, q_fn, q_ag, Bool.and_true, Bool.and_self, Bool.true_and, AV.b.injEq, decide_eq_true_eq, decide_eq_false_iff_not, true_and, and_true, and_self, reduceCtorEq, imp_self, implies_true, forall_const, eq_self, ex_tp, ex_ag, List.getD_cons_zero, List.getD_cons_succ, List.length_cons, List.length_nil, Nat.reduceAdd, Nat.reduceLT, Nat.zero_add, bne_self_eq_false, decide_true, decide_false, eq_self, true_implies, false_implies, forall_const, Bool.true_eq_false, Bool.not_true, Bool.not_false, not_true_eq_false, not_false_eq_true, if_true, if_false, pickV, cond_true, cond_false, boolV, fillEC, fillE, List.replicate, List.set, Mem.newL, Mem.keep, Int.reduceToNat, Nat.reduceSub, List.drop_zero, Int.reduceLE, Int.le_refl, Nat.sub_zero, Mem.newL]
  refine exec_loop (fun n e M => ∃ (i : Nat) (L : List Lv) (g : Nat), i ≤ xs.length ∧ n = xs.length - i ∧ look e 0 = a ∧ look e 1 = .i .i64 41 ∧ look e 5 = .i .i64 ((xs.take i).filter isOpt).length ∧ look e 6 = .i .i64 i ∧ M = ⟨L, g, H⟩) ?_ (n := xs.length) ⟨0, _, _, by omega, by omega, rfl, rfl, rfl, rfl, rfl⟩
  rintro n e M ⟨i, L, g, hi, rfl, q0, q1, q5, q6, rfl⟩
  by_cases hlt : (i : Int) < xs.length
  · have hil : i < xs.length := by omega
    obtain ⟨b1, b2, b3, b4, b5⟩ := Sx.fdn (z := 5) h rfl hil (off := 1) (by decide)
    have b5' := fun (L : List Lv) (g : Nat) => (b5 L g).trans (show _ = AV.i .i64 xs[i].t from rfl)
    have hs := filt_snoc hil
    have hle : ((xs.take i).filter isOpt).length ≤ xs.length := Nat.le_trans (List.length_filter_le _ _) (by simp; omega)
    have w9 : IntKind.i64.wrap ((i : Int) + 1) = ((i + 1 : Nat) : Int) := by rw [w64 (by omega) (by omega)]; rfl
    by_cases ht : xs[i].t = 41
    · have w8 : IntKind.i64.wrap ((((xs.take i).filter isOpt).length : Int) + 1) = (((xs.take (i + 1)).filter isOpt).length : Int) := by rw [w64 (by omega) (by omega), hs, if_pos ht]; simp
      simp -implicitDefEqProofs only [x_q, x_o, x_b, x_k, x_x, x_r, x_it, x_if, x_p, p_nil, p_on, p_off, p_mv, p_pk, p_bn, p_un, p_be, p_nl, p_eqa, p_ci, p_cbs, p_csb, p_ex, p_bd, p_fd, p_ix, p_ixa, p_ss, p_sl, p_sla, p_ln, p_lns, p_lnm, p_al, p_bx, p_lal, p_lbx, p_ld, p_st, p_fa, p_ia, p_iaa, p_bs, p_lbs, p_mk, p_ap, p_cp, p_cl, p_cv, p_mf, p_nc, p_mm, p_mkm, p_lk, p_mu, p_dl, p_rs, p_nx, cfC, lgPut, isOk, rv, rh, Bool.false_eq_true, d_nil, d_on, d_off, d_mv, d_pk, d_bn, d_un, d_be, d_nl, d_eqa, d_ci, d_cbs, d_csb, d_ex, d_bd, d_fd, d_ix, d_ixa, d_ss, d_sl, d_sla, d_ln, d_lns, d_lnm, d_al, d_bx, d_lal, d_lbx, d_ld, d_st, d_fa, d_ia, d_iaa, d_bs, d_lbs, d_mk, d_ap, d_cp, d_cl, d_cv, d_mf, d_nc, d_mm, d_mkm, d_lk, d_mu, d_dl, d_rs, d_nx, okO, vlO, mmO, dsO, putE, args, evT, evs, evO, look, kOps, kSeq, kBlk, keepE, reduceIte, Nat.reduceEqDiff, binC, binV, intC, intV, strC, strV, unC, unV, AV.isI, AV.isB, AV.isS, AV.toI, AV.toK, AV.toS, allOut, o_b, o_i, o_s, o_np, o_pv, o_pe, o_ns, o_sl, o_nm, o_mp, o_nf, o_fn, o_ag, q_b, q_i, q_s, q_np, q_pv, q_pe, q_ns, q_sl, q_nm, q_mp, q_nf, q_fn, q_ag, Bool.and_true, Bool.and_self, Bool.true_and, AV.b.injEq, decide_eq_true_eq, decide_eq_false_iff_not, true_and, and_true, and_self, reduceCtorEq, imp_self, implies_true, forall_const, eq_self, ex_tp, ex_ag, List.getD_cons_zero, List.getD_cons_succ, List.length_cons, List.length_nil, Nat.reduceAdd, Nat.reduceLT, Nat.zero_add, bne_self_eq_false, decide_true, decide_false, eq_self, true_implies, false_implies, forall_const, Bool.true_eq_false, Bool.not_true, Bool.not_false, not_true_eq_false, not_false_eq_true, if_true, if_false, pickV, cond_true, cond_false, boolV, fillEC, fillE, List.replicate, List.set, Mem.newL, Mem.keep, Int.reduceToNat, Nat.reduceSub, List.drop_zero, Int.reduceLE, Int.le_refl, Nat.sub_zero, Mem.newL, q0, q1, q5, q6, h1, h2, hlt, toNat_nat, b1, b2, b3, b4, b5', ht, w8, w9]
      exact ⟨xs.length - (i + 1), by omega, i + 1, _, _, by omega, rfl, rfl, rfl, rfl⟩
    · rw [if_neg ht, List.append_nil] at hs
      rw [← hs] at q5
      simp -implicitDefEqProofs only [x_q, x_o, x_b, x_k, x_x, x_r, x_it, x_if, x_p, p_nil, p_on, p_off, p_mv, p_pk, p_bn, p_un, p_be, p_nl, p_eqa, p_ci, p_cbs, p_csb, p_ex, p_bd, p_fd, p_ix, p_ixa, p_ss, p_sl, p_sla, p_ln, p_lns, p_lnm, p_al, p_bx, p_lal, p_lbx, p_ld, p_st, p_fa, p_ia, p_iaa, p_bs, p_lbs, p_mk, p_ap, p_cp, p_cl, p_cv, p_mf, p_nc, p_mm, p_mkm, p_lk, p_mu, p_dl, p_rs, p_nx, cfC, lgPut, isOk, rv, rh, Bool.false_eq_true, d_nil, d_on, d_off, d_mv, d_pk, d_bn, d_un, d_be, d_nl, d_eqa, d_ci, d_cbs, d_csb, d_ex, d_bd, d_fd, d_ix, d_ixa, d_ss, d_sl, d_sla, d_ln, d_lns, d_lnm, d_al, d_bx, d_lal, d_lbx, d_ld, d_st, d_fa, d_ia, d_iaa, d_bs, d_lbs, d_mk, d_ap, d_cp, d_cl, d_cv, d_mf, d_nc, d_mm, d_mkm, d_lk, d_mu, d_dl, d_rs, d_nx, okO, vlO, mmO, dsO, putE, args, evT, evs, evO, look, kOps, kSeq, kBlk, keepE, reduceIte, Nat.reduceEqDiff, binC, binV, intC, intV, strC, strV, unC, unV, AV.isI, AV.isB, AV.isS, AV.toI, AV.toK, AV.toS, allOut, o_b, o_i, o_s, o_np, o_pv, o_pe, o_ns, o_sl, o_nm, o_mp, o_nf, o_fn, o_ag, q_b, q_i, q_s, q_np, q_pv, q_pe, q_ns, q_sl, q_nm, q_mp, q_nf, q_fn, q_ag, Bool.and_true, Bool.and_self, Bool.true_and, AV.b.injEq, decide_eq_true_eq, decide_eq_false_iff_not, true_and, and_true, and_self, reduceCtorEq, imp_self, implies_true, forall_const, eq_self, ex_tp, ex_ag, List.getD_cons_zero, List.getD_cons_succ, List.length_cons, List.length_nil, Nat.reduceAdd, Nat.reduceLT, Nat.zero_add, bne_self_eq_false, decide_true, decide_false, eq_self, true_implies, false_implies, forall_const, Bool.true_eq_false, Bool.not_true, Bool.not_false, not_true_eq_false, not_false_eq_true, if_true, if_false, pickV, cond_true, cond_false, boolV, fillEC, fillE, List.replicate, List.set, Mem.newL, Mem.keep, Int.reduceToNat, Nat.reduceSub, List.drop_zero, Int.reduceLE, Int.le_refl, Nat.sub_zero, Mem.newL, q0, q1, q5, q6, h1, h2, hlt, toNat_nat, b1, b2, b3, b4, b5', ht, w9]
      exact ⟨xs.length - (i + 1), by omega, i + 1, _, _, by omega, rfl, rfl, rfl, rfl⟩
  · have hil : i = xs.length := by omega
    subst hil
    rw [List.take_length] at q5
    simp -implicitDefEqProofs only [x_q, x_o, x_b, x_k, x_x, x_r, x_it, x_if, x_p, p_nil, p_on, p_off, p_mv, p_pk, p_bn, p_un, p_be, p_nl, p_eqa, p_ci, p_cbs, p_csb, p_ex, p_bd, p_fd, p_ix, p_ixa, p_ss, p_sl, p_sla, p_ln, p_lns, p_lnm, p_al, p_bx, p_lal, p_lbx, p_ld, p_st, p_fa, p_ia, p_iaa, p_bs, p_lbs, p_mk, p_ap, p_cp, p_cl, p_cv, p_mf, p_nc, p_mm, p_mkm, p_lk, p_mu, p_dl, p_rs, p_nx, cfC, lgPut, isOk, rv, rh, Bool.false_eq_true, d_nil, d_on, d_off, d_mv, d_pk, d_bn, d_un, d_be, d_nl, d_eqa, d_ci, d_cbs, d_csb, d_ex, d_bd, d_fd, d_ix, d_ixa, d_ss, d_sl, d_sla, d_ln, d_lns, d_lnm, d_al, d_bx, d_lal, d_lbx, d_ld, d_st, d_fa, d_ia, d_iaa, d_bs, d_lbs, d_mk, d_ap, d_cp, d_cl, d_cv, d_mf, d_nc, d_mm, d_mkm, d_lk, d_mu, d_dl, d_rs, d_nx, okO, vlO, mmO, dsO, putE, args, evT, evs, evO, look, kOps, kSeq, kBlk, keepE, reduceIte, Nat.reduceEqDiff, binC, binV, intC, intV, strC, strV, unC, unV, AV.isI, AV.isB, AV.isS, AV.toI, AV.toK, AV.toS, allOut, o_b, o_i, o_s, o_np, o_pv, o_pe, o_ns, o_sl, o_nm, o_mp, o_nf, o_fn, o_ag, q_b, q_i, q_s, q_np, q_pv, q_pe, q_ns, q_sl, q_nm, q_mp, q_nf, q_fn, q_ag, Bool.and_true, Bool.and_self, Bool.true_and, AV.b.injEq, decide_eq_true_eq, decide_eq_false_iff_not, true_and, and_true, and_self, reduceCtorEq, imp_self, implies_true, forall_const, eq_self, ex_tp, ex_ag, List.getD_cons_zero, List.getD_cons_succ, List.length_cons, List.length_nil, Nat.reduceAdd, Nat.reduceLT, Nat.zero_add, bne_self_eq_false, decide_true, decide_false, eq_self, true_implies, false_implies, forall_const, Bool.true_eq_false, Bool.not_true, Bool.not_false, not_true_eq_false, not_false_eq_true, if_true, if_false, pickV, cond_true, cond_false, boolV, fillEC, fillE, List.replicate, List.set, Mem.newL, Mem.keep, Int.reduceToNat, Nat.reduceSub, List.drop_zero, Int.reduceLE, Int.le_refl, Nat.sub_zero, Mem.newL, q0, q1, q5, q6, h1, h2, hlt, endK, rsC, rsV, resV]
theorem num2 {x y : UInt8} : num [x, y] 0 = x.toNat * 256 + y.toNat := by simp [num]
theorem r_u16 {d : List UInt8} {H : AH} (hd : 2 ≤ d.length) : Runs C c_impl_u16 [.s d] H fun v H' => H' = H ∧ v = .i .i64 (num (d.take 2) 0 : Nat) := by
  unfold Runs c_impl_u16
  have h0 : (0 : Int) < d.length := by omega
  have h1 : (1 : Int) < d.length := by omega
  have v3 : (2 : Int) ^ (min 8 IntKind.i64.bits) = 256 := by decide
  have x0 := (d.getD 0 0).toNat_lt
  have x1 := (d.getD 1 0).toNat_lt
  have w1 : IntKind.i64.wrap ((d.getD 0 0).toNat : Int) = ((d.getD 0 0).toNat : Int) := w64 (by omega) (by omega)
  have w2 : IntKind.i64.wrap ((d.getD 1 0).toNat : Int) = ((d.getD 1 0).toNat : Int) := w64 (by omega) (by omega)
  have w3 : IntKind.i64.wrap (((d.getD 0 0).toNat : Int) * 256) = ((d.getD 0 0).toNat : Int) * 256 := w64 (by omega) (by omega)
  have w4 := or_bytes (d.getD 0 0) (d.getD 1 0)
  simp -implicitDefEqProofs only [x_q, x_o, x_b, x_k, x_x, x_r, x_it, x_if, x_p, p_nil, p_on, p_off, p_mv, p_pk, p_bn, p_un, p_be, p_nl, p_eqa, p_ci, p_cbs, p_csb, p_ex, p_bd, p_fd, p_ix, p_ixa, p_ss, p_sl, p_sla, p_ln, p_lns, p_lnm, p_al, p_bx, p_lal, p_lbx, p_ld, p_st, p_fa, p_ia, p_iaa, p_bs, p_lbs, p_mk, p_ap, p_cp, p_cl, p_cv, p_mf, p_nc, p_mm, p_mkm, p_lk, p_mu, p_dl, p_rs, p_nx, cfC, lgPut, isOk, rv, rh, Bool.false_eq_true, d_nil, d_on, d_off, d_mv, d_pk, d_bn, d_un, d_be, d_nl, d_eqa, d_ci, d_cbs, d_csb, d_ex, d_bd, d_fd, d_ix, d_ixa, d_ss, d_sl, d_sla, d_ln, d_lns, d_lnm, d_al, d_bx, d_lal, d_lbx, d_ld, d_st, d_fa, d_ia, d_iaa, d_bs, d_lbs, d_mk, d_ap, d_cp, d_cl, d_cv, d_mf, d_nc, d_mm, d_mkm, d_lk, d_mu, d_dl, d_rs, d_nx, okO, vlO, mmO, dsO, putE, args, evT, evs, evO, look, kOps, kSeq, kBlk, keepE, reduceIte, Nat.reduceEqDiff, binC, binV, intC, intV, strC, strV, unC, unV, AV.isI, AV.isB, AV.isS, AV.toI, AV.toK, AV.toS, allOut, o_b, o_i, o_s, o_np, o_pv, o_pe, o_ns, o_sl, o_nm, o_mp, o_nf, o_fn, o_ag, q_b, q_i, q_s, q_np, q_pv, q_pe, q_ns, q_sl, q_nm, q_mp, q_nf, q_fn, q_ag, Bool.and_true, Bool.and_self, Bool.true_and, AV.b.injEq, decide_eq_true_eq, decide_eq_false_iff_not, true_and, and_true, and_self, reduceCtorEq, imp_self, implies_true, forall_const, eq_self, ex_tp, ex_ag, List.getD_cons_zero, List.getD_cons_succ, List.length_cons, List.length_nil, Nat.reduceAdd, Nat.reduceLT, Nat.zero_add, bne_self_eq_false, decide_true, decide_false, eq_self, true_implies, false_implies, forall_const, Bool.true_eq_false, Bool.not_true, Bool.not_false, not_true_eq_false, not_false_eq_true, if_true, if_false, pickV, cond_true, cond_false, boolV, fillEC, fillE, List.replicate, List.set, Mem.newL, Mem.keep, Int.reduceToNat, Nat.reduceSub, List.drop_zero, Int.reduceLE, Int.le_refl, Nat.sub_zero, Mem.newL, h0, h1, v3, w1, w2, w3, w4, Int.reduceToNat, Int.reduceLE, endK, rsC, rsV, resV]
  have e : d.take 2 = [d.getD 0 0, d.getD 1 0] := by
    obtain _ | ⟨x, _ | ⟨y, r⟩⟩ := d
    · simp at hd
    · simp at hd
    · simp
  rw [e, num2]
end
end Go.Vm

/- ReadEdns: the spec's run. -/
namespace Go.Vm
set_option linter.unusedVariables false
set_option linter.unusedSimpArgs false
theorem num2_lt (l : List UInt8) : num (l.take 2) 0 < 65536 := by
  have h := num_lt (l.take 2) 0 0 (by simp)
  have h2 : (l.take 2).length ≤ 2 := by simp; omega
  have h3 : 256 ^ (0 + (l.take 2).length) ≤ 256 ^ 2 := Nat.pow_le_pow_right (by decide) (by omega)
  have h4 : (256 : Nat) ^ 2 = 65536 := by decide
  omega
theorem lit_srcE {t g : Nat} {x : Opt} {L : List Lv} {H : AH} : srcV ⟨⟨t, g, 0, [.ag [.i .i64 x.1, .s x.2]]⟩ :: L, g + 1, H⟩ (.ll t g 2 1) = [eO.v x] ∧ srcC ⟨⟨t, g, 0, [.ag [.i .i64 x.1, .s x.2]]⟩ :: L, g + 1, H⟩ 2 (.ll t g 2 1) := by
  simp [srcV, srcC, Mem.getL, Mem.hasL, lookL, eO, Enc.v]
section
variable {C : Tab}
theorem r_l13Options {d : List UInt8} {H : AH} (hN : T_l02Num C n_spec_l02Num) (hd : d.length ≤ 1099511627776) : Runs C c_spec_l13Options [.s d] H (optR (opsD d) H) := by
  unfold Runs c_spec_l13Options
  simp -implicitDefEqProofs only [x_q, x_o, x_b, x_k, x_x, x_r, x_it, x_if, x_p, p_nil, p_on, p_off, p_mv, p_pk, p_bn, p_un, p_be, p_nl, p_eqa, p_ci, p_cbs, p_csb, p_ex, p_bd, p_fd, p_ix, p_ixa, p_ss, p_sl, p_sla, p_ln, p_lns, p_lnm, p_al, p_bx, p_lal, p_lbx, p_ld, p_st, p_fa, p_ia, p_iaa, p_bs, p_lbs, p_mk, p_ap, p_cp, p_cl, p_cv, p_mf, p_nc, p_mm, p_mkm, p_lk, p_mu, p_dl, p_rs, p_nx, cfC, lgPut, isOk, rv, rh, Bool.false_eq_true, d_nil, d_on, d_off, d_mv, d_pk, d_bn, d_un, d_be, d_nl, d_eqa, d_ci, d_cbs, d_csb, d_ex, d_bd, d_fd, d_ix, d_ixa, d_ss, d_sl, d_sla, d_ln, d_lns, d_lnm, d_al, d_bx, d_lal, d_lbx, d_ld, d_st, d_fa, d_ia, d_iaa, d_bs, d_lbs, d_mk, d_ap, d_cp, d_cl, d_cv, d_mf, d_nc, d_mm, d_mkm, d_lk, d_mu, d_dl, d_rs, d_nx, okO, vlO, mmO, dsO, putE, args, evT, evs, evO, look, kOps, kSeq, kBlk, keepE, reduceIte, Nat.reduceEqDiff, binC, binV, intC, intV, strC, strV, unC, unV, AV.isI, AV.isB, AV.isS, AV.toI, AV.toK, AV.toS, allOut, o_b, o_i, o_s, o_np, o_pv, o_pe, o_ns, o_sl, o_nm, o_mp, o_nf, o_fn, o_ag, q_b, q_i, q_s, q_np, q_pv, q_pe, q_ns, q_sl, q_nm, q_mp, q_nf, q_fn, q_ag, Bool.and_true, Bool.and_self, Bool.true_and, AV.b.injEq, decide_eq_true_eq, decide_eq_false_iff_not, true_and, and_true, and_self, reduceCtorEq, imp_self, implies_true, forall_const, eq_self, ex_tp, ex_ag, List.getD_cons_zero, List.getD_cons_succ, List.length_cons, List.length_nil, Nat.reduceAdd, Nat.reduceLT, Nat.zero_add, bne_self_eq_false, decide_true, decide_false, eq_self, true_implies, false_implies, forall_const, Bool.true_eq_false, Bool.not_true, Bool.not_false, not_true_eq_false, not_false_eq_true, if_true, if_false, pickV, cond_true, cond_false, boolV, fillEC, fillE, List.replicate, List.set, Mem.newL, Mem.keep, Int.reduceToNat, Nat.reduceSub, List.drop_zero, Int.reduceLE, Int.le_refl, Nat.sub_zero, Mem.newL, fillEC, fillE, List.replicate]
  refine exec_loop (fun n e M => ∃ (s : List UInt8) (os : List Opt) (o : AV) (H' : AH) (L : List Lv) (g : Nat), n = s.length ∧ look e 0 = .s s ∧ look e 4 = o ∧ M = ⟨L, g, H'⟩ ∧ Mx H' eO o os ∧ Ext H H' ∧ (∀ i, i ∈ idA o → H.n ≤ i) ∧ os.length + s.length ≤ d.length ∧ opsD d = (opsD s).map fun q => os ++ q) ?_ (n := d.length)
    ⟨d, [], _, _, _, _, rfl, rfl, rfl, rfl, Mn.own (xs := []) (by simp) new_at, .new _ _, fun i hi => by simp [idA, look] at hi; omega, by simp, by simp⟩
  rintro n e M ⟨s, os, o, H', L, g, rfl, q0, q4, rfl, hm, he, hid, hl, hop⟩
  by_cases hs : s = []
  · subst hs
    rw [opsD_nil] at hop
    simp only [Option.map_some, List.append_nil] at hop
    have ho := hm.sl.out
    simp -implicitDefEqProofs only [x_q, x_o, x_b, x_k, x_x, x_r, x_it, x_if, x_p, p_nil, p_on, p_off, p_mv, p_pk, p_bn, p_un, p_be, p_nl, p_eqa, p_ci, p_cbs, p_csb, p_ex, p_bd, p_fd, p_ix, p_ixa, p_ss, p_sl, p_sla, p_ln, p_lns, p_lnm, p_al, p_bx, p_lal, p_lbx, p_ld, p_st, p_fa, p_ia, p_iaa, p_bs, p_lbs, p_mk, p_ap, p_cp, p_cl, p_cv, p_mf, p_nc, p_mm, p_mkm, p_lk, p_mu, p_dl, p_rs, p_nx, cfC, lgPut, isOk, rv, rh, Bool.false_eq_true, d_nil, d_on, d_off, d_mv, d_pk, d_bn, d_un, d_be, d_nl, d_eqa, d_ci, d_cbs, d_csb, d_ex, d_bd, d_fd, d_ix, d_ixa, d_ss, d_sl, d_sla, d_ln, d_lns, d_lnm, d_al, d_bx, d_lal, d_lbx, d_ld, d_st, d_fa, d_ia, d_iaa, d_bs, d_lbs, d_mk, d_ap, d_cp, d_cl, d_cv, d_mf, d_nc, d_mm, d_mkm, d_lk, d_mu, d_dl, d_rs, d_nx, okO, vlO, mmO, dsO, putE, args, evT, evs, evO, look, kOps, kSeq, kBlk, keepE, reduceIte, Nat.reduceEqDiff, binC, binV, intC, intV, strC, strV, unC, unV, AV.isI, AV.isB, AV.isS, AV.toI, AV.toK, AV.toS, allOut, o_b, o_i, o_s, o_np, o_pv, o_pe, o_ns, o_sl, o_nm, o_mp, o_nf, o_fn, o_ag, q_b, q_i, q_s, q_np, q_pv, q_pe, q_ns, q_sl, q_nm, q_mp, q_nf, q_fn, q_ag, Bool.and_true, Bool.and_self, Bool.true_and, AV.b.injEq, decide_eq_true_eq, decide_eq_false_iff_not, true_and, and_true, and_self, reduceCtorEq, imp_self, implies_true, forall_const, eq_self, ex_tp, ex_ag, List.getD_cons_zero, List.getD_cons_succ, List.length_cons, List.length_nil, Nat.reduceAdd, Nat.reduceLT, Nat.zero_add, bne_self_eq_false, decide_true, decide_false, eq_self, true_implies, false_implies, forall_const, Bool.true_eq_false, Bool.not_true, Bool.not_false, not_true_eq_false, not_false_eq_true, if_true, if_false, pickV, cond_true, cond_false, boolV, fillEC, fillE, List.replicate, List.set, Mem.newL, Mem.keep, Int.reduceToNat, Nat.reduceSub, List.drop_zero, Int.reduceLE, Int.le_refl, Nat.sub_zero, Mem.newL, q0, q4, ho, hop, optR, endK, rsC, rsV, resV]
    exact ⟨o, rfl, hm, he, hid⟩
  · have hs0 : 0 < s.length := List.length_pos_iff.2 hs
    by_cases h4 : (s.length : Int) < 4
    · rw [opsD_bad hs (by omega)] at hop
      simp only [Option.map_none] at hop
      simp -implicitDefEqProofs only [x_q, x_o, x_b, x_k, x_x, x_r, x_it, x_if, x_p, p_nil, p_on, p_off, p_mv, p_pk, p_bn, p_un, p_be, p_nl, p_eqa, p_ci, p_cbs, p_csb, p_ex, p_bd, p_fd, p_ix, p_ixa, p_ss, p_sl, p_sla, p_ln, p_lns, p_lnm, p_al, p_bx, p_lal, p_lbx, p_ld, p_st, p_fa, p_ia, p_iaa, p_bs, p_lbs, p_mk, p_ap, p_cp, p_cl, p_cv, p_mf, p_nc, p_mm, p_mkm, p_lk, p_mu, p_dl, p_rs, p_nx, cfC, lgPut, isOk, rv, rh, Bool.false_eq_true, d_nil, d_on, d_off, d_mv, d_pk, d_bn, d_un, d_be, d_nl, d_eqa, d_ci, d_cbs, d_csb, d_ex, d_bd, d_fd, d_ix, d_ixa, d_ss, d_sl, d_sla, d_ln, d_lns, d_lnm, d_al, d_bx, d_lal, d_lbx, d_ld, d_st, d_fa, d_ia, d_iaa, d_bs, d_lbs, d_mk, d_ap, d_cp, d_cl, d_cv, d_mf, d_nc, d_mm, d_mkm, d_lk, d_mu, d_dl, d_rs, d_nx, okO, vlO, mmO, dsO, putE, args, evT, evs, evO, look, kOps, kSeq, kBlk, keepE, reduceIte, Nat.reduceEqDiff, binC, binV, intC, intV, strC, strV, unC, unV, AV.isI, AV.isB, AV.isS, AV.toI, AV.toK, AV.toS, allOut, o_b, o_i, o_s, o_np, o_pv, o_pe, o_ns, o_sl, o_nm, o_mp, o_nf, o_fn, o_ag, q_b, q_i, q_s, q_np, q_pv, q_pe, q_ns, q_sl, q_nm, q_mp, q_nf, q_fn, q_ag, Bool.and_true, Bool.and_self, Bool.true_and, AV.b.injEq, decide_eq_true_eq, decide_eq_false_iff_not, true_and, and_true, and_self, reduceCtorEq, imp_self, implies_true, forall_const, eq_self, ex_tp, ex_ag, List.getD_cons_zero, List.getD_cons_succ, List.length_cons, List.length_nil, Nat.reduceAdd, Nat.reduceLT, Nat.zero_add, bne_self_eq_false, decide_true, decide_false, eq_self, true_implies, false_implies, forall_const, Bool.true_eq_false, Bool.not_true, Bool.not_false, not_true_eq_false, not_false_eq_true, if_true, if_false, pickV, cond_true, cond_false, boolV, fillEC, fillE, List.replicate, List.set, Mem.newL, Mem.keep, Int.reduceToNat, Nat.reduceSub, List.drop_zero, Int.reduceLE, Int.le_refl, Nat.sub_zero, Mem.newL, q0, q4, hs, h4, hop, optR, endK, rsC, rsV, resV]
      exact he
    · have c1 := hN ((s.drop 2).take 2) H' (by simp; omega)
      have c2 := hN (s.take 2) H' (by simp; omega)
      have hw : IntKind.i64.wrap ((s.length : Int) - 4) = (s.length : Int) - 4 := w64 (by omega) (by omega)
      have hlt := num2_lt (s.drop 2)
      have r2 : (2 : Int) ≤ 4 := by decide
      have r4 : (4 : Int) ≤ s.length := by omega
      have r0 : (2 : Int) ≤ s.length := by omega
      by_cases hb : (s.length : Int) - 4 < (num ((s.drop 2).take 2) 0 : Nat)
      · rw [opsD_bad hs (by omega)] at hop
        simp only [Option.map_none] at hop
        simp -implicitDefEqProofs only [x_q, x_o, x_b, x_k, x_x, x_r, x_it, x_if, x_p, p_nil, p_on, p_off, p_mv, p_pk, p_bn, p_un, p_be, p_nl, p_eqa, p_ci, p_cbs, p_csb, p_ex, p_bd, p_fd, p_ix, p_ixa, p_ss, p_sl, p_sla, p_ln, p_lns, p_lnm, p_al, p_bx, p_lal, p_lbx, p_ld, p_st, p_fa, p_ia, p_iaa, p_bs, p_lbs, p_mk, p_ap, p_cp, p_cl, p_cv, p_mf, p_nc, p_mm, p_mkm, p_lk, p_mu, p_dl, p_rs, p_nx, cfC, lgPut, isOk, rv, rh, Bool.false_eq_true, d_nil, d_on, d_off, d_mv, d_pk, d_bn, d_un, d_be, d_nl, d_eqa, d_ci, d_cbs, d_csb, d_ex, d_bd, d_fd, d_ix, d_ixa, d_ss, d_sl, d_sla, d_ln, d_lns, d_lnm, d_al, d_bx, d_lal, d_lbx, d_ld, d_st, d_fa, d_ia, d_iaa, d_bs, d_lbs, d_mk, d_ap, d_cp, d_cl, d_cv, d_mf, d_nc, d_mm, d_mkm, d_lk, d_mu, d_dl, d_rs, d_nx, okO, vlO, mmO, dsO, putE, args, evT, evs, evO, look, kOps, kSeq, kBlk, keepE, reduceIte, Nat.reduceEqDiff, binC, binV, intC, intV, strC, strV, unC, unV, AV.isI, AV.isB, AV.isS, AV.toI, AV.toK, AV.toS, allOut, o_b, o_i, o_s, o_np, o_pv, o_pe, o_ns, o_sl, o_nm, o_mp, o_nf, o_fn, o_ag, q_b, q_i, q_s, q_np, q_pv, q_pe, q_ns, q_sl, q_nm, q_mp, q_nf, q_fn, q_ag, Bool.and_true, Bool.and_self, Bool.true_and, AV.b.injEq, decide_eq_true_eq, decide_eq_false_iff_not, true_and, and_true, and_self, reduceCtorEq, imp_self, implies_true, forall_const, eq_self, ex_tp, ex_ag, List.getD_cons_zero, List.getD_cons_succ, List.length_cons, List.length_nil, Nat.reduceAdd, Nat.reduceLT, Nat.zero_add, bne_self_eq_false, decide_true, decide_false, eq_self, true_implies, false_implies, forall_const, Bool.true_eq_false, Bool.not_true, Bool.not_false, not_true_eq_false, not_false_eq_true, if_true, if_false, pickV, cond_true, cond_false, boolV, fillEC, fillE, List.replicate, List.set, Mem.newL, Mem.keep, Int.reduceToNat, Nat.reduceSub, List.drop_zero, Int.reduceLE, Int.le_refl, Nat.sub_zero, Mem.newL, q0, q4, hs, h4, hw, r2, r4, Int.reduceToNat, Nat.reduceSub, Int.reduceLE, c1, hb, hop, optR, endK, rsC, rsV, resV]
        exact he
      · have hop' := opsD_ok hs (by omega)
        rw [hop', Option.map_map] at hop
        generalize hn : num ((s.drop 2).take 2) 0 = m at *
        have w4 : IntKind.i64.wrap (4 + (m : Int)) = ((4 + m : Nat) : Int) := by rw [w64 (by omega) (by omega)]; omega
        have r5 : (4 : Int) ≤ ((4 + m : Nat) : Int) := by omega
        have r6 : ((4 + m : Nat) : Int) ≤ s.length := by omega
        have r7 : (0 : Int) ≤ ((4 + m : Nat) : Int) := by omega
        have r8 : 4 + m - 4 = m := by omega
        have e1 : opt1 s = (((num (s.take 2) 0 : Nat) : Int), (s.drop 4).take m) := by rw [opt1, hn]
        obtain ⟨p1, o', H2, p2, p3, p4, p5, p6, p7, -⟩ := Mn.ap (z := 2) (by' := 24) hm (lit_srcE (t := 33) (g := g) (x := opt1 s) (L := dropL (keepL [0, 4] L) 33) (H := H')) (by simp; omega)
        rw [e1] at p1 p2 p3
        simp -implicitDefEqProofs only [x_q, x_o, x_b, x_k, x_x, x_r, x_it, x_if, x_p, p_nil, p_on, p_off, p_mv, p_pk, p_bn, p_un, p_be, p_nl, p_eqa, p_ci, p_cbs, p_csb, p_ex, p_bd, p_fd, p_ix, p_ixa, p_ss, p_sl, p_sla, p_ln, p_lns, p_lnm, p_al, p_bx, p_lal, p_lbx, p_ld, p_st, p_fa, p_ia, p_iaa, p_bs, p_lbs, p_mk, p_ap, p_cp, p_cl, p_cv, p_mf, p_nc, p_mm, p_mkm, p_lk, p_mu, p_dl, p_rs, p_nx, cfC, lgPut, isOk, rv, rh, Bool.false_eq_true, d_nil, d_on, d_off, d_mv, d_pk, d_bn, d_un, d_be, d_nl, d_eqa, d_ci, d_cbs, d_csb, d_ex, d_bd, d_fd, d_ix, d_ixa, d_ss, d_sl, d_sla, d_ln, d_lns, d_lnm, d_al, d_bx, d_lal, d_lbx, d_ld, d_st, d_fa, d_ia, d_iaa, d_bs, d_lbs, d_mk, d_ap, d_cp, d_cl, d_cv, d_mf, d_nc, d_mm, d_mkm, d_lk, d_mu, d_dl, d_rs, d_nx, okO, vlO, mmO, dsO, putE, args, evT, evs, evO, look, kOps, kSeq, kBlk, keepE, reduceIte, Nat.reduceEqDiff, binC, binV, intC, intV, strC, strV, unC, unV, AV.isI, AV.isB, AV.isS, AV.toI, AV.toK, AV.toS, allOut, o_b, o_i, o_s, o_np, o_pv, o_pe, o_ns, o_sl, o_nm, o_mp, o_nf, o_fn, o_ag, q_b, q_i, q_s, q_np, q_pv, q_pe, q_ns, q_sl, q_nm, q_mp, q_nf, q_fn, q_ag, Bool.and_true, Bool.and_self, Bool.true_and, AV.b.injEq, decide_eq_true_eq, decide_eq_false_iff_not, true_and, and_true, and_self, reduceCtorEq, imp_self, implies_true, forall_const, eq_self, ex_tp, ex_ag, List.getD_cons_zero, List.getD_cons_succ, List.length_cons, List.length_nil, Nat.reduceAdd, Nat.reduceLT, Nat.zero_add, bne_self_eq_false, decide_true, decide_false, eq_self, true_implies, false_implies, forall_const, Bool.true_eq_false, Bool.not_true, Bool.not_false, not_true_eq_false, not_false_eq_true, if_true, if_false, pickV, cond_true, cond_false, boolV, fillEC, fillE, List.replicate, List.set, Mem.newL, Mem.keep, Int.reduceToNat, Nat.reduceSub, List.drop_zero, Int.reduceLE, Int.le_refl, Nat.sub_zero, Mem.newL, q0, q4, hs, h4, hw, r0, r2, r4, r5, r6, r7, r8, w4, Int.reduceToNat, Nat.reduceSub, Int.reduceLE, Int.le_refl, toNat_nat, List.drop_zero, Nat.sub_zero, c1, c2, hb, fillP, fillC, setPart, fillEC, fillE, List.replicate, List.set, List.take_zero, List.nil_append, List.cons_append, List.drop_succ_cons, List.take_succ_cons, List.append_nil, List.drop_nil, Nat.reduceLeDiff]
        simp -implicitDefEqProofs only [x_q, x_o, x_b, x_k, x_x, x_r, x_it, x_if, x_p, p_nil, p_on, p_off, p_mv, p_pk, p_bn, p_un, p_be, p_nl, p_eqa, p_ci, p_cbs, p_csb, p_ex, p_bd, p_fd, p_ix, p_ixa, p_ss, p_sl, p_sla, p_ln, p_lns, p_lnm, p_al, p_bx, p_lal, p_lbx, p_ld, p_st, p_fa, p_ia, p_iaa, p_bs, p_lbs, p_mk, p_ap, p_cp, p_cl, p_cv, p_mf, p_nc, p_mm, p_mkm, p_lk, p_mu, p_dl, p_rs, p_nx, cfC, lgPut, isOk, rv, rh, Bool.false_eq_true, d_nil, d_on, d_off, d_mv, d_pk, d_bn, d_un, d_be, d_nl, d_eqa, d_ci, d_cbs, d_csb, d_ex, d_bd, d_fd, d_ix, d_ixa, d_ss, d_sl, d_sla, d_ln, d_lns, d_lnm, d_al, d_bx, d_lal, d_lbx, d_ld, d_st, d_fa, d_ia, d_iaa, d_bs, d_lbs, d_mk, d_ap, d_cp, d_cl, d_cv, d_mf, d_nc, d_mm, d_mkm, d_lk, d_mu, d_dl, d_rs, d_nx, okO, vlO, mmO, dsO, putE, args, evT, evs, evO, look, kOps, kSeq, kBlk, keepE, reduceIte, Nat.reduceEqDiff, binC, binV, intC, intV, strC, strV, unC, unV, AV.isI, AV.isB, AV.isS, AV.toI, AV.toK, AV.toS, allOut, o_b, o_i, o_s, o_np, o_pv, o_pe, o_ns, o_sl, o_nm, o_mp, o_nf, o_fn, o_ag, q_b, q_i, q_s, q_np, q_pv, q_pe, q_ns, q_sl, q_nm, q_mp, q_nf, q_fn, q_ag, Bool.and_true, Bool.and_self, Bool.true_and, AV.b.injEq, decide_eq_true_eq, decide_eq_false_iff_not, true_and, and_true, and_self, reduceCtorEq, imp_self, implies_true, forall_const, eq_self, ex_tp, ex_ag, List.getD_cons_zero, List.getD_cons_succ, List.length_cons, List.length_nil, Nat.reduceAdd, Nat.reduceLT, Nat.zero_add, bne_self_eq_false, p1, p2, p3]
        refine ⟨(s.drop (4 + m)).length, by simp; omega, s.drop (4 + m), os ++ [opt1 s], o', H2, _, _, rfl, by rw [List.take_of_length_le (by simp)], rfl, rfl, ?_, he.put hid p5 p6, fun i hi => ?_, by simp; omega, ?_⟩
        · have : Mn H2 2 o' (os.map eO.v ++ [eO.v (opt1 s)]) := p4
          unfold Mx
          rw [List.map_append]
          exact this
        · rcases p7 i hi with h | h
          · exact hid i h
          · have := he.n; omega
        · rw [hop]
          cases opsD (s.drop (4 + m)) <;> simp
/-- The first OPT record, found behind none. -/
theorem filt_first {xs : List Rr} {i : Nat} (hi : i < xs.length) (h0 : (xs.take i).filter isOpt = []) (ht : xs[i].t = 41) : xs.filter isOpt = xs[i] :: (xs.drop (i + 1)).filter isOpt := by
  have : xs = xs.take i ++ xs[i] :: xs.drop (i + 1) := by
    rw [← List.drop_eq_getElem_cons hi, List.take_append_drop]
  conv => lhs; rw [this]
  rw [List.filter_append, h0, List.nil_append, List.filter_cons, if_pos (by simp [isOpt, ht])]
theorem r_spec_ReadEdns {q a b c : AV} {m : Msg} {H : AH} (hN : T_l13Count C n_spec_l13Count) (hO : T_l13Options C n_spec_l13Options) (h : MsgS H q a b c m) (hs : szM m ≤ 1048576) :
    Runs C c_spec_ReadEdns [mV m.h q a b c] H (RePost (rdE m) H) := by
  unfold Runs c_spec_ReadEdns mV
  unfold szM at hs
  have o1 := h.hq.out
  have o2 := h.ha.out
  have o3 := h.hb.out
  have o4 := h.hc.out
  have k1 := hN a m.an H h.ha (by omega)
  have k2 := hN b m.au H h.hb (by omega)
  have k3 := hN c m.ex H h.hc (by omega)
  have l1 := List.length_filter_le isOpt m.an
  have l2 := List.length_filter_le isOpt m.au
  have w1 : IntKind.i64.wrap (((m.an.filter isOpt).length : Int) + ((m.au.filter isOpt).length : Int)) = ((m.an.filter isOpt).length : Int) + ((m.au.filter isOpt).length : Int) := w64 (by omega) (by omega)
  by_cases c1 : (0 : Int) < ((m.an.filter isOpt).length : Int) + ((m.au.filter isOpt).length : Int)
  · simp -implicitDefEqProofs only [x_q, x_o, x_b, x_k, x_x, x_r, x_it, x_if, x_p, p_nil, p_on, p_off, p_mv, p_pk, p_bn, p_un, p_be, p_nl, p_eqa, p_ci, p_cbs, p_csb, p_ex, p_bd, p_fd, p_ix, p_ixa, p_ss, p_sl, p_sla, p_ln, p_lns, p_lnm, p_al, p_bx, p_lal, p_lbx, p_ld, p_st, p_fa, p_ia, p_iaa, p_bs, p_lbs, p_mk, p_ap, p_cp, p_cl, p_cv, p_mf, p_nc, p_mm, p_mkm, p_lk, p_mu, p_dl, p_rs, p_nx, cfC, lgPut, isOk, rv, rh, Bool.false_eq_true, d_nil, d_on, d_off, d_mv, d_pk, d_bn, d_un, d_be, d_nl, d_eqa, d_ci, d_cbs, d_csb, d_ex, d_bd, d_fd, d_ix, d_ixa, d_ss, d_sl, d_sla, d_ln, d_lns, d_lnm, d_al, d_bx, d_lal, d_lbx, d_ld, d_st, d_fa, d_ia, d_iaa, d_bs, d_lbs, d_mk, d_ap, d_cp, d_cl, d_cv, d_mf, d_nc, d_mm, d_mkm, d_lk, d_mu, d_dl, d_rs, d_nx, okO, vlO, mmO, dsO, putE, args, evT, evs, evO, look, kOps, kSeq, kBlk, keepE, reduceIte, Nat.reduceEqDiff, binC, binV, intC, intV, strC, strV, unC, unV, AV.isI, AV.isB, AV.isS, AV.toI, AV.toK, AV.toS, allOut, o_b, o_i, o_s, o_np, o_pv, o_pe, o_ns, o_sl, o_nm, o_mp, o_nf, o_fn, o_ag, q_b, q_i, q_s, q_np, q_pv, q_pe, q_ns, q_sl, q_nm, q_mp, q_nf, q_fn, q_ag, Bool.and_true, Bool.and_self, Bool.true_and, AV.b.injEq, decide_eq_true_eq, decide_eq_false_iff_not, true_and, and_true, and_self, reduceCtorEq, imp_self, implies_true, forall_const, eq_self, ex_tp, ex_ag, List.getD_cons_zero, List.getD_cons_succ, List.length_cons, List.length_nil, Nat.reduceAdd, Nat.reduceLT, Nat.zero_add, bne_self_eq_false, decide_true, decide_false, eq_self, true_implies, false_implies, forall_const, Bool.true_eq_false, Bool.not_true, Bool.not_false, not_true_eq_false, not_false_eq_true, if_true, if_false, pickV, cond_true, cond_false, boolV, fillEC, fillE, List.replicate, List.set, Mem.newL, Mem.keep, Int.reduceToNat, Nat.reduceSub, List.drop_zero, Int.reduceLE, Int.le_refl, Nat.sub_zero, Mem.newL, Mem.newL, Mem.getL, Mem.hasL, lookL, setL, dropL, keepL, memN, la_faC, la_faV, la_ldC, la_ldX, la_stC, la_stM, partOf, partFits, setEl, setPart, Option.isSome_some, Option.getD_some, List.take_succ_cons, List.take_zero, List.drop_succ_cons, List.drop_zero, List.nil_append, List.cons_append, List.getD_cons_zero, List.getD_cons_succ, List.length_cons, List.length_nil, List.set_cons_zero, List.append_nil, List.drop_nil, List.take_nil, Nat.reduceAdd, Nat.reduceLT, Nat.reduceLeDiff, Nat.zero_add, Nat.add_zero, Nat.lt_add_one, Nat.le_refl, Nat.zero_le, Nat.zero_lt_succ, fillP, fillC, Nat.reduceLeDiff, lgAt, isRd, o1, o2, o3, o4, k1, k2, k3, w1, c1, endK, rsC, rsV, resV]
    rw [rdE, if_pos (.inl (by omega))]
    exact .bad (.refl _)
  by_cases c2 : (1 : Int) < ((m.ex.filter isOpt).length : Int)
  · simp -implicitDefEqProofs only [x_q, x_o, x_b, x_k, x_x, x_r, x_it, x_if, x_p, p_nil, p_on, p_off, p_mv, p_pk, p_bn, p_un, p_be, p_nl, p_eqa, p_ci, p_cbs, p_csb, p_ex, p_bd, p_fd, p_ix, p_ixa, p_ss, p_sl, p_sla, p_ln, p_lns, p_lnm, p_al, p_bx, p_lal, p_lbx, p_ld, p_st, p_fa, p_ia, p_iaa, p_bs, p_lbs, p_mk, p_ap, p_cp, p_cl, p_cv, p_mf, p_nc, p_mm, p_mkm, p_lk, p_mu, p_dl, p_rs, p_nx, cfC, lgPut, isOk, rv, rh, Bool.false_eq_true, d_nil, d_on, d_off, d_mv, d_pk, d_bn, d_un, d_be, d_nl, d_eqa, d_ci, d_cbs, d_csb, d_ex, d_bd, d_fd, d_ix, d_ixa, d_ss, d_sl, d_sla, d_ln, d_lns, d_lnm, d_al, d_bx, d_lal, d_lbx, d_ld, d_st, d_fa, d_ia, d_iaa, d_bs, d_lbs, d_mk, d_ap, d_cp, d_cl, d_cv, d_mf, d_nc, d_mm, d_mkm, d_lk, d_mu, d_dl, d_rs, d_nx, okO, vlO, mmO, dsO, putE, args, evT, evs, evO, look, kOps, kSeq, kBlk, keepE, reduceIte, Nat.reduceEqDiff, binC, binV, intC, intV, strC, strV, unC, unV, AV.isI, AV.isB, AV.isS, AV.toI, AV.toK, AV.toS, allOut, o_b, o_i, o_s, o_np, o_pv, o_pe, o_ns, o_sl, o_nm, o_mp, o_nf, o_fn, o_ag, q_b, q_i, q_s, q_np, q_pv, q_pe, q_ns, q_sl, q_nm, q_mp, q_nf, q_fn, q_ag, Bool.and_true, Bool.and_self, Bool.true_and, AV.b.injEq, decide_eq_true_eq, decide_eq_false_iff_not, true_and, and_true, and_self, reduceCtorEq, imp_self, implies_true, forall_const, eq_self, ex_tp, ex_ag, List.getD_cons_zero, List.getD_cons_succ, List.length_cons, List.length_nil, Nat.reduceAdd, Nat.reduceLT, Nat.zero_add, bne_self_eq_false, decide_true, decide_false, eq_self, true_implies, false_implies, forall_const, Bool.true_eq_false, Bool.not_true, Bool.not_false, not_true_eq_false, not_false_eq_true, if_true, if_false, pickV, cond_true, cond_false, boolV, fillEC, fillE, List.replicate, List.set, Mem.newL, Mem.keep, Int.reduceToNat, Nat.reduceSub, List.drop_zero, Int.reduceLE, Int.le_refl, Nat.sub_zero, Mem.newL, Mem.newL, Mem.getL, Mem.hasL, lookL, setL, dropL, keepL, memN, la_faC, la_faV, la_ldC, la_ldX, la_stC, la_stM, partOf, partFits, setEl, setPart, Option.isSome_some, Option.getD_some, List.take_succ_cons, List.take_zero, List.drop_succ_cons, List.drop_zero, List.nil_append, List.cons_append, List.getD_cons_zero, List.getD_cons_succ, List.length_cons, List.length_nil, List.set_cons_zero, List.append_nil, List.drop_nil, List.take_nil, Nat.reduceAdd, Nat.reduceLT, Nat.reduceLeDiff, Nat.zero_add, Nat.add_zero, Nat.lt_add_one, Nat.le_refl, Nat.zero_le, Nat.zero_lt_succ, fillP, fillC, Nat.reduceLeDiff, lgAt, isRd, o1, o2, o3, o4, k1, k2, k3, w1, c1, c2, endK, rsC, rsV, resV]
    rw [rdE, if_pos (.inr (by omega))]
    exact .bad (.refl _)
  have hrd : rdE m = (match m.ex.filter isOpt with
    | [] => (ed0, 0)
    | r :: _ => match opsD r.d with
      | none => (ed0, 32)
      | some os => if r.o = [0] then (edR r os, 0) else (ed0, 32)) := by rw [rdE, if_neg (by omega)] <;> rfl
  obtain ⟨h1, h2⟩ := h.hc.len
  simp -implicitDefEqProofs only [x_q, x_o, x_b, x_k, x_x, x_r, x_it, x_if, x_p, p_nil, p_on, p_off, p_mv, p_pk, p_bn, p_un, p_be, p_nl, p_eqa, p_ci, p_cbs, p_csb, p_ex, p_bd, p_fd, p_ix, p_ixa, p_ss, p_sl, p_sla, p_ln, p_lns, p_lnm, p_al, p_bx, p_lal, p_lbx, p_ld, p_st, p_fa, p_ia, p_iaa, p_bs, p_lbs, p_mk, p_ap, p_cp, p_cl, p_cv, p_mf, p_nc, p_mm, p_mkm, p_lk, p_mu, p_dl, p_rs, p_nx, cfC, lgPut, isOk, rv, rh, Bool.false_eq_true, d_nil, d_on, d_off, d_mv, d_pk, d_bn, d_un, d_be, d_nl, d_eqa, d_ci, d_cbs, d_csb, d_ex, d_bd, d_fd, d_ix, d_ixa, d_ss, d_sl, d_sla, d_ln, d_lns, d_lnm, d_al, d_bx, d_lal, d_lbx, d_ld, d_st, d_fa, d_ia, d_iaa, d_bs, d_lbs, d_mk, d_ap, d_cp, d_cl, d_cv, d_mf, d_nc, d_mm, d_mkm, d_lk, d_mu, d_dl, d_rs, d_nx, okO, vlO, mmO, dsO, putE, args, evT, evs, evO, look, kOps, kSeq, kBlk, keepE, reduceIte, Nat.reduceEqDiff, binC, binV, intC, intV, strC, strV, unC, unV, AV.isI, AV.isB, AV.isS, AV.toI, AV.toK, AV.toS, allOut, o_b, o_i, o_s, o_np, o_pv, o_pe, o_ns, o_sl, o_nm, o_mp, o_nf, o_fn, o_ag, q_b, q_i, q_s, q_np, q_pv, q_pe, q_ns, q_sl, q_nm, q_mp, q_nf, q_fn, q_ag, Bool.and_true, Bool.and_self, Bool.true_and, AV.b.injEq, decide_eq_true_eq, decide_eq_false_iff_not, true_and, and_true, and_self, reduceCtorEq, imp_self, implies_true, forall_const, eq_self, ex_tp, ex_ag, List.getD_cons_zero, List.getD_cons_succ, List.length_cons, List.length_nil, Nat.reduceAdd, Nat.reduceLT, Nat.zero_add, bne_self_eq_false, decide_true, decide_false, eq_self, true_implies, false_implies, forall_const, Bool.true_eq_false, Bool.not_true, Bool.not_false, not_true_eq_false, not_false_eq_true, if_true, if_false, pickV, cond_true, cond_false, boolV, fillEC, fillE, List.replicate, List.set, Mem.newL, Mem.keep, Int.reduceToNat, Nat.reduceSub, List.drop_zero, Int.reduceLE, Int.le_refl, Nat.sub_zero, Mem.newL, Mem.newL, Mem.getL, Mem.hasL, lookL, setL, dropL, keepL, memN, la_faC, la_faV, la_ldC, la_ldX, la_stC, la_stM, partOf, partFits, setEl, setPart, Option.isSome_some, Option.getD_some, List.take_succ_cons, List.take_zero, List.drop_succ_cons, List.drop_zero, List.nil_append, List.cons_append, List.getD_cons_zero, List.getD_cons_succ, List.length_cons, List.length_nil, List.set_cons_zero, List.append_nil, List.drop_nil, List.take_nil, Nat.reduceAdd, Nat.reduceLT, Nat.reduceLeDiff, Nat.zero_add, Nat.add_zero, Nat.lt_add_one, Nat.le_refl, Nat.zero_le, Nat.zero_lt_succ, fillP, fillC, Nat.reduceLeDiff, lgAt, isRd, o1, o2, o3, o4, k1, k2, k3, w1, c1, c2]
  refine exec_loop (fun n e M => ∃ (i : Nat) (L : List Lv) (g : Nat), i ≤ m.ex.length ∧ n = m.ex.length - i ∧ look e 1 = .la 1 0 0 0 ∧ look e 2 = .la 2 1 0 0 ∧ look e 4 = .i .i64 i ∧ M = ⟨L, g, H⟩ ∧
    keepL [1, 2, 4] L = [⟨2, 1, 0, [.ag [.b false, .i .i64 0, .i .i64 0, .i .i64 0, .ns]]⟩, ⟨1, 0, 0, [mV m.h q a b c]⟩] ∧ (m.ex.take i).filter isOpt = []) ?_ (n := m.ex.length) ⟨0, _, _, by omega, by omega, rfl, rfl, rfl, rfl, rfl, rfl⟩
  rintro n e M ⟨i, L, g, hi, rfl, q1, q2, q4, rfl, hL, hf⟩
  unfold mV at hL
  by_cases hlt : (i : Int) < m.ex.length
  · have hil : i < m.ex.length := by omega
    obtain ⟨b1, b2, b3, b4⟩ := Sx.at' h.hc hil
    simp only [show eR.z = 5 from rfl, show eR.v m.ex[i] = AV.ag [.s (m.ex[i]).o, .i .i64 (m.ex[i]).t, .i .i64 (m.ex[i]).c, .i .i64 (m.ex[i]).ttl, .s (m.ex[i]).d] from rfl] at b1 b3 b4
    have hsn := filt_snoc hil
    have w9 : IntKind.i64.wrap ((i : Int) + 1) = ((i + 1 : Nat) : Int) := by rw [w64 (by omega) (by omega)]; rfl
    have hmem : m.ex[i] ∈ m.ex := List.getElem_mem hil
    have hwd : (m.ex[i]).d.length ≤ 1048576 := by have := tot_mem' (w := w_RR) hmem; simp only [w_RR] at this; omega
    by_cases ht : (m.ex[i]).t = 41
    · rw [filt_first hil hf ht] at hrd
      obtain ⟨v, H', k5, k6⟩ := hO (m.ex[i]).d H (by omega)
      simp only at hrd
      cases hod : opsD (m.ex[i]).d with
      | none =>
        rw [hod] at k6 hrd
        obtain ⟨rfl, k6⟩ := k6
        simp -implicitDefEqProofs only [x_q, x_o, x_b, x_k, x_x, x_r, x_it, x_if, x_p, p_nil, p_on, p_off, p_mv, p_pk, p_bn, p_un, p_be, p_nl, p_eqa, p_ci, p_cbs, p_csb, p_ex, p_bd, p_fd, p_ix, p_ixa, p_ss, p_sl, p_sla, p_ln, p_lns, p_lnm, p_al, p_bx, p_lal, p_lbx, p_ld, p_st, p_fa, p_ia, p_iaa, p_bs, p_lbs, p_mk, p_ap, p_cp, p_cl, p_cv, p_mf, p_nc, p_mm, p_mkm, p_lk, p_mu, p_dl, p_rs, p_nx, cfC, lgPut, isOk, rv, rh, Bool.false_eq_true, d_nil, d_on, d_off, d_mv, d_pk, d_bn, d_un, d_be, d_nl, d_eqa, d_ci, d_cbs, d_csb, d_ex, d_bd, d_fd, d_ix, d_ixa, d_ss, d_sl, d_sla, d_ln, d_lns, d_lnm, d_al, d_bx, d_lal, d_lbx, d_ld, d_st, d_fa, d_ia, d_iaa, d_bs, d_lbs, d_mk, d_ap, d_cp, d_cl, d_cv, d_mf, d_nc, d_mm, d_mkm, d_lk, d_mu, d_dl, d_rs, d_nx, okO, vlO, mmO, dsO, putE, args, evT, evs, evO, look, kOps, kSeq, kBlk, keepE, reduceIte, Nat.reduceEqDiff, binC, binV, intC, intV, strC, strV, unC, unV, AV.isI, AV.isB, AV.isS, AV.toI, AV.toK, AV.toS, allOut, o_b, o_i, o_s, o_np, o_pv, o_pe, o_ns, o_sl, o_nm, o_mp, o_nf, o_fn, o_ag, q_b, q_i, q_s, q_np, q_pv, q_pe, q_ns, q_sl, q_nm, q_mp, q_nf, q_fn, q_ag, Bool.and_true, Bool.and_self, Bool.true_and, AV.b.injEq, decide_eq_true_eq, decide_eq_false_iff_not, true_and, and_true, and_self, reduceCtorEq, imp_self, implies_true, forall_const, eq_self, ex_tp, ex_ag, List.getD_cons_zero, List.getD_cons_succ, List.length_cons, List.length_nil, Nat.reduceAdd, Nat.reduceLT, Nat.zero_add, bne_self_eq_false, decide_true, decide_false, eq_self, true_implies, false_implies, forall_const, Bool.true_eq_false, Bool.not_true, Bool.not_false, not_true_eq_false, not_false_eq_true, if_true, if_false, pickV, cond_true, cond_false, boolV, fillEC, fillE, List.replicate, List.set, Mem.newL, Mem.keep, Int.reduceToNat, Nat.reduceSub, List.drop_zero, Int.reduceLE, Int.le_refl, Nat.sub_zero, Mem.newL, Mem.newL, Mem.getL, Mem.hasL, lookL, setL, dropL, keepL, memN, la_faC, la_faV, la_ldC, la_ldX, la_stC, la_stM, partOf, partFits, setEl, setPart, Option.isSome_some, Option.getD_some, List.take_succ_cons, List.take_zero, List.drop_succ_cons, List.drop_zero, List.nil_append, List.cons_append, List.getD_cons_zero, List.getD_cons_succ, List.length_cons, List.length_nil, List.set_cons_zero, List.append_nil, List.drop_nil, List.take_nil, Nat.reduceAdd, Nat.reduceLT, Nat.reduceLeDiff, Nat.zero_add, Nat.add_zero, Nat.lt_add_one, Nat.le_refl, Nat.zero_le, Nat.zero_lt_succ, fillP, fillC, Nat.reduceLeDiff, lgAt, isRd, q1, q2, q4, h1, h2, hL, hlt, b1, b2, b3, b4, toNat_nat, ht, o4, k5, endK, rsC, rsV, resV]
        rw [hrd]
        exact .bad k6
      | some os =>
        rw [hod] at k6 hrd
        obtain ⟨a', rfl, k7, k8, k9⟩ := k6
        have ho := k7.sl.out
        have hone := k7.sl.one
        by_cases hroot : (m.ex[i]).o = [0]
        · simp -implicitDefEqProofs only [x_q, x_o, x_b, x_k, x_x, x_r, x_it, x_if, x_p, p_nil, p_on, p_off, p_mv, p_pk, p_bn, p_un, p_be, p_nl, p_eqa, p_ci, p_cbs, p_csb, p_ex, p_bd, p_fd, p_ix, p_ixa, p_ss, p_sl, p_sla, p_ln, p_lns, p_lnm, p_al, p_bx, p_lal, p_lbx, p_ld, p_st, p_fa, p_ia, p_iaa, p_bs, p_lbs, p_mk, p_ap, p_cp, p_cl, p_cv, p_mf, p_nc, p_mm, p_mkm, p_lk, p_mu, p_dl, p_rs, p_nx, cfC, lgPut, isOk, rv, rh, Bool.false_eq_true, d_nil, d_on, d_off, d_mv, d_pk, d_bn, d_un, d_be, d_nl, d_eqa, d_ci, d_cbs, d_csb, d_ex, d_bd, d_fd, d_ix, d_ixa, d_ss, d_sl, d_sla, d_ln, d_lns, d_lnm, d_al, d_bx, d_lal, d_lbx, d_ld, d_st, d_fa, d_ia, d_iaa, d_bs, d_lbs, d_mk, d_ap, d_cp, d_cl, d_cv, d_mf, d_nc, d_mm, d_mkm, d_lk, d_mu, d_dl, d_rs, d_nx, okO, vlO, mmO, dsO, putE, args, evT, evs, evO, look, kOps, kSeq, kBlk, keepE, reduceIte, Nat.reduceEqDiff, binC, binV, intC, intV, strC, strV, unC, unV, AV.isI, AV.isB, AV.isS, AV.toI, AV.toK, AV.toS, allOut, o_b, o_i, o_s, o_np, o_pv, o_pe, o_ns, o_sl, o_nm, o_mp, o_nf, o_fn, o_ag, q_b, q_i, q_s, q_np, q_pv, q_pe, q_ns, q_sl, q_nm, q_mp, q_nf, q_fn, q_ag, Bool.and_true, Bool.and_self, Bool.true_and, AV.b.injEq, decide_eq_true_eq, decide_eq_false_iff_not, true_and, and_true, and_self, reduceCtorEq, imp_self, implies_true, forall_const, eq_self, ex_tp, ex_ag, List.getD_cons_zero, List.getD_cons_succ, List.length_cons, List.length_nil, Nat.reduceAdd, Nat.reduceLT, Nat.zero_add, bne_self_eq_false, decide_true, decide_false, eq_self, true_implies, false_implies, forall_const, Bool.true_eq_false, Bool.not_true, Bool.not_false, not_true_eq_false, not_false_eq_true, if_true, if_false, pickV, cond_true, cond_false, boolV, fillEC, fillE, List.replicate, List.set, Mem.newL, Mem.keep, Int.reduceToNat, Nat.reduceSub, List.drop_zero, Int.reduceLE, Int.le_refl, Nat.sub_zero, Mem.newL, Mem.newL, Mem.getL, Mem.hasL, lookL, setL, dropL, keepL, memN, la_faC, la_faV, la_ldC, la_ldX, la_stC, la_stM, partOf, partFits, setEl, setPart, Option.isSome_some, Option.getD_some, List.take_succ_cons, List.take_zero, List.drop_succ_cons, List.drop_zero, List.nil_append, List.cons_append, List.getD_cons_zero, List.getD_cons_succ, List.length_cons, List.length_nil, List.set_cons_zero, List.append_nil, List.drop_nil, List.take_nil, Nat.reduceAdd, Nat.reduceLT, Nat.reduceLeDiff, Nat.zero_add, Nat.add_zero, Nat.lt_add_one, Nat.le_refl, Nat.zero_le, Nat.zero_lt_succ, fillP, fillC, Nat.reduceLeDiff, lgAt, isRd, q1, q2, q4, h1, h2, hL, hlt, b1, b2, b3, b4, toNat_nat, ht, o4, k5, ho, hone, hroot, endK, rsC, rsV, resV]
          simp only [hroot, if_true] at hrd
          rw [hrd]
          exact ⟨a', rfl, k7, k8, k9⟩
        · simp -implicitDefEqProofs only [x_q, x_o, x_b, x_k, x_x, x_r, x_it, x_if, x_p, p_nil, p_on, p_off, p_mv, p_pk, p_bn, p_un, p_be, p_nl, p_eqa, p_ci, p_cbs, p_csb, p_ex, p_bd, p_fd, p_ix, p_ixa, p_ss, p_sl, p_sla, p_ln, p_lns, p_lnm, p_al, p_bx, p_lal, p_lbx, p_ld, p_st, p_fa, p_ia, p_iaa, p_bs, p_lbs, p_mk, p_ap, p_cp, p_cl, p_cv, p_mf, p_nc, p_mm, p_mkm, p_lk, p_mu, p_dl, p_rs, p_nx, cfC, lgPut, isOk, rv, rh, Bool.false_eq_true, d_nil, d_on, d_off, d_mv, d_pk, d_bn, d_un, d_be, d_nl, d_eqa, d_ci, d_cbs, d_csb, d_ex, d_bd, d_fd, d_ix, d_ixa, d_ss, d_sl, d_sla, d_ln, d_lns, d_lnm, d_al, d_bx, d_lal, d_lbx, d_ld, d_st, d_fa, d_ia, d_iaa, d_bs, d_lbs, d_mk, d_ap, d_cp, d_cl, d_cv, d_mf, d_nc, d_mm, d_mkm, d_lk, d_mu, d_dl, d_rs, d_nx, okO, vlO, mmO, dsO, putE, args, evT, evs, evO, look, kOps, kSeq, kBlk, keepE, reduceIte, Nat.reduceEqDiff, binC, binV, intC, intV, strC, strV, unC, unV, AV.isI, AV.isB, AV.isS, AV.toI, AV.toK, AV.toS, allOut, o_b, o_i, o_s, o_np, o_pv, o_pe, o_ns, o_sl, o_nm, o_mp, o_nf, o_fn, o_ag, q_b, q_i, q_s, q_np, q_pv, q_pe, q_ns, q_sl, q_nm, q_mp, q_nf, q_fn, q_ag, Bool.and_true, Bool.and_self, Bool.true_and, AV.b.injEq, decide_eq_true_eq, decide_eq_false_iff_not, true_and, and_true, and_self, reduceCtorEq, imp_self, implies_true, forall_const, eq_self, ex_tp, ex_ag, List.getD_cons_zero, List.getD_cons_succ, List.length_cons, List.length_nil, Nat.reduceAdd, Nat.reduceLT, Nat.zero_add, bne_self_eq_false, decide_true, decide_false, eq_self, true_implies, false_implies, forall_const, Bool.true_eq_false, Bool.not_true, Bool.not_false, not_true_eq_false, not_false_eq_true, if_true, if_false, pickV, cond_true, cond_false, boolV, fillEC, fillE, List.replicate, List.set, Mem.newL, Mem.keep, Int.reduceToNat, Nat.reduceSub, List.drop_zero, Int.reduceLE, Int.le_refl, Nat.sub_zero, Mem.newL, Mem.newL, Mem.getL, Mem.hasL, lookL, setL, dropL, keepL, memN, la_faC, la_faV, la_ldC, la_ldX, la_stC, la_stM, partOf, partFits, setEl, setPart, Option.isSome_some, Option.getD_some, List.take_succ_cons, List.take_zero, List.drop_succ_cons, List.drop_zero, List.nil_append, List.cons_append, List.getD_cons_zero, List.getD_cons_succ, List.length_cons, List.length_nil, List.set_cons_zero, List.append_nil, List.drop_nil, List.take_nil, Nat.reduceAdd, Nat.reduceLT, Nat.reduceLeDiff, Nat.zero_add, Nat.add_zero, Nat.lt_add_one, Nat.le_refl, Nat.zero_le, Nat.zero_lt_succ, fillP, fillC, Nat.reduceLeDiff, lgAt, isRd, q1, q2, q4, h1, h2, hL, hlt, b1, b2, b3, b4, toNat_nat, ht, o4, k5, ho, hone, hroot, endK, rsC, rsV, resV]
          simp only [hroot, if_false] at hrd
          rw [hrd]
          exact .bad k8
    · rw [if_neg ht, List.append_nil] at hsn
      simp -implicitDefEqProofs only [x_q, x_o, x_b, x_k, x_x, x_r, x_it, x_if, x_p, p_nil, p_on, p_off, p_mv, p_pk, p_bn, p_un, p_be, p_nl, p_eqa, p_ci, p_cbs, p_csb, p_ex, p_bd, p_fd, p_ix, p_ixa, p_ss, p_sl, p_sla, p_ln, p_lns, p_lnm, p_al, p_bx, p_lal, p_lbx, p_ld, p_st, p_fa, p_ia, p_iaa, p_bs, p_lbs, p_mk, p_ap, p_cp, p_cl, p_cv, p_mf, p_nc, p_mm, p_mkm, p_lk, p_mu, p_dl, p_rs, p_nx, cfC, lgPut, isOk, rv, rh, Bool.false_eq_true, d_nil, d_on, d_off, d_mv, d_pk, d_bn, d_un, d_be, d_nl, d_eqa, d_ci, d_cbs, d_csb, d_ex, d_bd, d_fd, d_ix, d_ixa, d_ss, d_sl, d_sla, d_ln, d_lns, d_lnm, d_al, d_bx, d_lal, d_lbx, d_ld, d_st, d_fa, d_ia, d_iaa, d_bs, d_lbs, d_mk, d_ap, d_cp, d_cl, d_cv, d_mf, d_nc, d_mm, d_mkm, d_lk, d_mu, d_dl, d_rs, d_nx, okO, vlO, mmO, dsO, putE, args, evT, evs, evO, look, kOps, kSeq, kBlk, keepE, reduceIte, Nat.reduceEqDiff, binC, binV, intC, intV, strC, strV, unC, unV, AV.isI, AV.isB, AV.isS, AV.toI, AV.toK, AV.toS, allOut, o_b, o_i, o_s, o_np, o_pv, o_pe, o_ns, o_sl, o_nm, o_mp, o_nf, o_fn, o_ag, q_b, q_i, q_s, q_np, q_pv, q_pe, q_ns, q_sl, q_nm, q_mp, q_nf, q_fn, q_ag, Bool.and_true, Bool.and_self, Bool.true_and, AV.b.injEq, decide_eq_true_eq, decide_eq_false_iff_not, true_and, and_true, and_self, reduceCtorEq, imp_self, implies_true, forall_const, eq_self, ex_tp, ex_ag, List.getD_cons_zero, List.getD_cons_succ, List.length_cons, List.length_nil, Nat.reduceAdd, Nat.reduceLT, Nat.zero_add, bne_self_eq_false, decide_true, decide_false, eq_self, true_implies, false_implies, forall_const, Bool.true_eq_false, Bool.not_true, Bool.not_false, not_true_eq_false, not_false_eq_true, if_true, if_false, pickV, cond_true, cond_false, boolV, fillEC, fillE, List.replicate, List.set, Mem.newL, Mem.keep, Int.reduceToNat, Nat.reduceSub, List.drop_zero, Int.reduceLE, Int.le_refl, Nat.sub_zero, Mem.newL, Mem.newL, Mem.getL, Mem.hasL, lookL, setL, dropL, keepL, memN, la_faC, la_faV, la_ldC, la_ldX, la_stC, la_stM, partOf, partFits, setEl, setPart, Option.isSome_some, Option.getD_some, List.take_succ_cons, List.take_zero, List.drop_succ_cons, List.drop_zero, List.nil_append, List.cons_append, List.getD_cons_zero, List.getD_cons_succ, List.length_cons, List.length_nil, List.set_cons_zero, List.append_nil, List.drop_nil, List.take_nil, Nat.reduceAdd, Nat.reduceLT, Nat.reduceLeDiff, Nat.zero_add, Nat.add_zero, Nat.lt_add_one, Nat.le_refl, Nat.zero_le, Nat.zero_lt_succ, fillP, fillC, Nat.reduceLeDiff, lgAt, isRd, q1, q2, q4, h1, h2, hL, hlt, b1, b2, b3, b4, toNat_nat, ht, w9, o4]
      exact ⟨m.ex.length - (i + 1), by omega, i + 1, _, _, by omega, rfl, rfl, rfl, rfl, hsn.trans hf⟩
  · have hil : i = m.ex.length := by omega
    rw [hil, List.take_length] at hf
    rw [hf] at hrd
    simp -implicitDefEqProofs only [x_q, x_o, x_b, x_k, x_x, x_r, x_it, x_if, x_p, p_nil, p_on, p_off, p_mv, p_pk, p_bn, p_un, p_be, p_nl, p_eqa, p_ci, p_cbs, p_csb, p_ex, p_bd, p_fd, p_ix, p_ixa, p_ss, p_sl, p_sla, p_ln, p_lns, p_lnm, p_al, p_bx, p_lal, p_lbx, p_ld, p_st, p_fa, p_ia, p_iaa, p_bs, p_lbs, p_mk, p_ap, p_cp, p_cl, p_cv, p_mf, p_nc, p_mm, p_mkm, p_lk, p_mu, p_dl, p_rs, p_nx, cfC, lgPut, isOk, rv, rh, Bool.false_eq_true, d_nil, d_on, d_off, d_mv, d_pk, d_bn, d_un, d_be, d_nl, d_eqa, d_ci, d_cbs, d_csb, d_ex, d_bd, d_fd, d_ix, d_ixa, d_ss, d_sl, d_sla, d_ln, d_lns, d_lnm, d_al, d_bx, d_lal, d_lbx, d_ld, d_st, d_fa, d_ia, d_iaa, d_bs, d_lbs, d_mk, d_ap, d_cp, d_cl, d_cv, d_mf, d_nc, d_mm, d_mkm, d_lk, d_mu, d_dl, d_rs, d_nx, okO, vlO, mmO, dsO, putE, args, evT, evs, evO, look, kOps, kSeq, kBlk, keepE, reduceIte, Nat.reduceEqDiff, binC, binV, intC, intV, strC, strV, unC, unV, AV.isI, AV.isB, AV.isS, AV.toI, AV.toK, AV.toS, allOut, o_b, o_i, o_s, o_np, o_pv, o_pe, o_ns, o_sl, o_nm, o_mp, o_nf, o_fn, o_ag, q_b, q_i, q_s, q_np, q_pv, q_pe, q_ns, q_sl, q_nm, q_mp, q_nf, q_fn, q_ag, Bool.and_true, Bool.and_self, Bool.true_and, AV.b.injEq, decide_eq_true_eq, decide_eq_false_iff_not, true_and, and_true, and_self, reduceCtorEq, imp_self, implies_true, forall_const, eq_self, ex_tp, ex_ag, List.getD_cons_zero, List.getD_cons_succ, List.length_cons, List.length_nil, Nat.reduceAdd, Nat.reduceLT, Nat.zero_add, bne_self_eq_false, decide_true, decide_false, eq_self, true_implies, false_implies, forall_const, Bool.true_eq_false, Bool.not_true, Bool.not_false, not_true_eq_false, not_false_eq_true, if_true, if_false, pickV, cond_true, cond_false, boolV, fillEC, fillE, List.replicate, List.set, Mem.newL, Mem.keep, Int.reduceToNat, Nat.reduceSub, List.drop_zero, Int.reduceLE, Int.le_refl, Nat.sub_zero, Mem.newL, Mem.newL, Mem.getL, Mem.hasL, lookL, setL, dropL, keepL, memN, la_faC, la_faV, la_ldC, la_ldX, la_stC, la_stM, partOf, partFits, setEl, setPart, Option.isSome_some, Option.getD_some, List.take_succ_cons, List.take_zero, List.drop_succ_cons, List.drop_zero, List.nil_append, List.cons_append, List.getD_cons_zero, List.getD_cons_succ, List.length_cons, List.length_nil, List.set_cons_zero, List.append_nil, List.drop_nil, List.take_nil, Nat.reduceAdd, Nat.reduceLT, Nat.reduceLeDiff, Nat.zero_add, Nat.add_zero, Nat.lt_add_one, Nat.le_refl, Nat.zero_le, Nat.zero_lt_succ, fillP, fillC, Nat.reduceLeDiff, lgAt, isRd, q1, q2, q4, h1, h2, hL, hlt, o4, endK, rsC, rsV, resV]
    rw [hrd]
    exact .bad (.refl _)
end
end Go.Vm
