import Derived.Test.YtfamnghjibckbaaDoorRf4
import Derived.Test.YtfamnghjibckbaaDoorRf3
import Derived.Test.YtfamnghjibckbaaDoorProg
import Derived.KernelRfl
/- EdnsRecord: the pure answer, and the spec's run. -/
namespace Go.Vm
set_option linter.unusedVariables false
set_option linter.unusedSimpArgs false
abbrev Opt := Int × List UInt8
def eO : Enc Opt := ⟨2, fun o => [.i .i64 o.1, .s o.2], fun _ => rfl⟩
def eR : Enc Rr := ⟨5, fun r => [.s r.o, .i .i64 r.t, .i .i64 r.c, .i .i64 r.ttl, .s r.d], fun _ => rfl⟩
def wO (o : Opt) : Nat := o.2.length
def preO (o : Opt) : Prop := o.2.length ≤ 9223372036854775807
def wire (o : Opt) : List UInt8 := be16 o.1.toNat ++ be16 o.2.length ++ o.2
def datO (os : List Opt) : List UInt8 := os.flatMap wire
def optOk (o : Opt) : Prop := 0 ≤ o.1 ∧ o.1 ≤ 65535 ∧ o.2.length ≤ 65535
instance (o : Opt) : Decidable (optOk o) := inferInstanceAs (Decidable (_ ∧ _ ∧ _))
def rr0 : Rr := ⟨[], 0, 0, 0, []⟩
def ednsOk (size code flags : Int) (os : List Opt) : Prop := (0 ≤ size ∧ size ≤ 65535) ∧ (0 ≤ flags ∧ flags ≤ 65535) ∧ (0 ≤ code ∧ code ≤ 255) ∧ (∀ o, o ∈ os → optOk o) ∧ (datO os).length ≤ 65535
def ednsR (size code flags : Int) (os : List Opt) : Rr := ⟨[0], 41, size, code * 16777216 + flags, datO os⟩
def EdPost (size code flags : Int) (os : List Opt) (H : AH) (v : AV) (H' : AH) : Prop := Ext H H' ∧ ((ednsOk size code flags os ∧ v = .tp [eR.v (ednsR size code flags os), .i .i64 0]) ∨ (¬ ednsOk size code flags os ∧ v = .tp [eR.v rr0, .i .i64 32]))
theorem datO_len : ∀ os : List Opt, (datO os).length = 4 * os.length + tot' wO os
  | [] => rfl
  | o :: r => by
    have := datO_len r
    simp only [datO, List.flatMap_cons, List.length_append, List.length_cons, tot', wO, wire, be16, List.length_nil] at *
    omega
theorem datO_snoc (os : List Opt) (o : Opt) : datO (os ++ [o]) = datO os ++ wire o := by simp [datO]
theorem datO_pre {os : List Opt} (i : Nat) : (datO (os.take i)).length ≤ (datO os).length := by
  conv => rhs; rw [← List.take_append_drop i os]
  rw [show datO (os.take i ++ os.drop i) = datO (os.take i) ++ datO (os.drop i) from List.flatMap_append]
  simp
def T_in (C : Tab) (f : Nat) : Prop := ∀ (x m : Int) (H : AH), C f [.i .i64 x, .i .i64 m] H = some (.b (decide (0 ≤ x ∧ x ≤ m)), H)
def T_within (C : Tab) (f : Nat) : Prop := ∀ (x lo m : Int) (H : AH), C f [.i .i64 x, .i .i64 lo, .i .i64 m] H = some (.b (decide (lo ≤ x ∧ x ≤ m)), H)
def T_p16 (C : Tab) (f : Nat) : Prop := ∀ (n : Nat) (H : AH), n ≤ 65535 → ∃ H', C f [.i .i64 n] H = some (.s (be16 n), H') ∧ Ext H H'
def T_put2 (C : Tab) (f : Nat) : Prop := ∀ (n : Nat) (H : AH), n ≤ 65535 → ∃ H', C f [.i .i64 n, .i .i64 2] H = some (.s (be16 n), H') ∧ Ext H H'
section
variable {C : Tab}
theorem r_spec_EdnsRecord {a : AV} {os : List Opt} {size code flags : Int} {H : AH} (hI : T_in C n_spec_l04In) (hP : T_put2 C n_spec_l02Put) (h : Sx H eO a os) (hn : os.length + tot' wO os ≤ 1048576) :
    Runs C c_spec_EdnsRecord [.i .i64 size, .i .i64 code, .i .i64 flags, a] H (EdPost size code flags os H) := by
  unfold Runs c_spec_EdnsRecord
  have i1 := hI size 65535 H
  have i2 := hI flags 65535 H
  have i3 := hI code 255 H
  obtain ⟨h1, h2⟩ := h.len
  by_cases c1 : 0 ≤ size ∧ size ≤ 65535
  case neg =>
    rw [decide_eq_false c1] at i1
    simp only [x_q, x_o, x_b, x_k, x_x, x_r, x_it, x_if, x_p, p_nil, p_on, p_off, p_mv, p_pk, p_bn, p_un, p_be, p_nl, p_eqa, p_ci, p_cbs, p_csb, p_ex, p_bd, p_fd, p_ix, p_ixa, p_ss, p_sl, p_sla, p_ln, p_lns, p_lnm, p_al, p_bx, p_lal, p_lbx, p_ld, p_st, p_fa, p_ia, p_iaa, p_bs, p_lbs, p_mk, p_ap, p_cp, p_cl, p_cv, p_mf, p_nc, p_mm, p_mkm, p_lk, p_mu, p_dl, p_rs, p_nx, cfC, lgPut, isOk, rv, rh, Bool.false_eq_true, d_nil, d_on, d_off, d_mv, d_pk, d_bn, d_un, d_be, d_nl, d_eqa, d_ci, d_cbs, d_csb, d_ex, d_bd, d_fd, d_ix, d_ixa, d_ss, d_sl, d_sla, d_ln, d_lns, d_lnm, d_al, d_bx, d_lal, d_lbx, d_ld, d_st, d_fa, d_ia, d_iaa, d_bs, d_lbs, d_mk, d_ap, d_cp, d_cl, d_cv, d_mf, d_nc, d_mm, d_mkm, d_lk, d_mu, d_dl, d_rs, d_nx, okO, vlO, mmO, dsO, putE, args, evT, evs, evO, look, kOps, kSeq, kBlk, keepE, reduceIte, Nat.reduceEqDiff, binC, binV, intC, intV, strC, strV, unC, unV, AV.isI, AV.isB, AV.isS, AV.toI, AV.toK, AV.toS, allOut, o_b, o_i, o_s, o_np, o_pv, o_pe, o_ns, o_sl, o_nm, o_mp, o_nf, o_fn, o_ag, q_b, q_i, q_s, q_np, q_pv, q_pe, q_ns, q_sl, q_nm, q_mp, q_nf, q_fn, q_ag, Bool.and_true, Bool.and_self, Bool.true_and, AV.b.injEq, decide_eq_true_eq, decide_eq_false_iff_not, true_and, and_true, and_self, reduceCtorEq, imp_self, implies_true, forall_const, eq_self, ex_tp, ex_ag, List.getD_cons_zero, List.getD_cons_succ, List.length_cons, List.length_nil, Nat.reduceAdd, Nat.reduceLT, Nat.zero_add, bne_self_eq_false, decide_true, decide_false, eq_self, true_implies, false_implies, forall_const, Bool.true_eq_false, Bool.not_true, Bool.not_false, not_true_eq_false, not_false_eq_true, if_true, if_false, pickV, cond_true, cond_false, boolV, fillEC, fillE, List.replicate, List.set, Mem.newL, Mem.keep, Int.reduceToNat, Nat.reduceSub, List.drop_zero, Int.reduceLE, Int.le_refl, Nat.sub_zero, Mem.newL, Mem.newL, Mem.getL, Mem.hasL, lookL, setL, dropL, keepL, memN, la_faC, la_faV, la_ldC, la_ldX, la_stC, la_stM, partOf, partFits, setEl, setPart, Option.isSome_some, Option.getD_some, List.take_succ_cons, List.take_zero, List.drop_succ_cons, List.drop_zero, List.nil_append, List.cons_append, List.getD_cons_zero, List.getD_cons_succ, List.length_cons, List.length_nil, List.set_cons_zero, List.append_nil, List.drop_nil, List.take_nil, Nat.reduceAdd, Nat.reduceLT, Nat.reduceLeDiff, Nat.zero_add, Nat.add_zero, Nat.lt_add_one, Nat.le_refl, Nat.zero_le, Nat.zero_lt_succ, fillP, fillC, Nat.reduceLeDiff, lgAt, isRd, i1, endK, rsC, rsV, resV]
    exact ⟨.refl _, .inr ⟨fun hk => c1 hk.1, rfl⟩⟩
  rw [decide_eq_true c1] at i1
  by_cases c2 : 0 ≤ flags ∧ flags ≤ 65535
  case neg =>
    rw [decide_eq_false c2] at i2
    simp only [x_q, x_o, x_b, x_k, x_x, x_r, x_it, x_if, x_p, p_nil, p_on, p_off, p_mv, p_pk, p_bn, p_un, p_be, p_nl, p_eqa, p_ci, p_cbs, p_csb, p_ex, p_bd, p_fd, p_ix, p_ixa, p_ss, p_sl, p_sla, p_ln, p_lns, p_lnm, p_al, p_bx, p_lal, p_lbx, p_ld, p_st, p_fa, p_ia, p_iaa, p_bs, p_lbs, p_mk, p_ap, p_cp, p_cl, p_cv, p_mf, p_nc, p_mm, p_mkm, p_lk, p_mu, p_dl, p_rs, p_nx, cfC, lgPut, isOk, rv, rh, Bool.false_eq_true, d_nil, d_on, d_off, d_mv, d_pk, d_bn, d_un, d_be, d_nl, d_eqa, d_ci, d_cbs, d_csb, d_ex, d_bd, d_fd, d_ix, d_ixa, d_ss, d_sl, d_sla, d_ln, d_lns, d_lnm, d_al, d_bx, d_lal, d_lbx, d_ld, d_st, d_fa, d_ia, d_iaa, d_bs, d_lbs, d_mk, d_ap, d_cp, d_cl, d_cv, d_mf, d_nc, d_mm, d_mkm, d_lk, d_mu, d_dl, d_rs, d_nx, okO, vlO, mmO, dsO, putE, args, evT, evs, evO, look, kOps, kSeq, kBlk, keepE, reduceIte, Nat.reduceEqDiff, binC, binV, intC, intV, strC, strV, unC, unV, AV.isI, AV.isB, AV.isS, AV.toI, AV.toK, AV.toS, allOut, o_b, o_i, o_s, o_np, o_pv, o_pe, o_ns, o_sl, o_nm, o_mp, o_nf, o_fn, o_ag, q_b, q_i, q_s, q_np, q_pv, q_pe, q_ns, q_sl, q_nm, q_mp, q_nf, q_fn, q_ag, Bool.and_true, Bool.and_self, Bool.true_and, AV.b.injEq, decide_eq_true_eq, decide_eq_false_iff_not, true_and, and_true, and_self, reduceCtorEq, imp_self, implies_true, forall_const, eq_self, ex_tp, ex_ag, List.getD_cons_zero, List.getD_cons_succ, List.length_cons, List.length_nil, Nat.reduceAdd, Nat.reduceLT, Nat.zero_add, bne_self_eq_false, decide_true, decide_false, eq_self, true_implies, false_implies, forall_const, Bool.true_eq_false, Bool.not_true, Bool.not_false, not_true_eq_false, not_false_eq_true, if_true, if_false, pickV, cond_true, cond_false, boolV, fillEC, fillE, List.replicate, List.set, Mem.newL, Mem.keep, Int.reduceToNat, Nat.reduceSub, List.drop_zero, Int.reduceLE, Int.le_refl, Nat.sub_zero, Mem.newL, Mem.newL, Mem.getL, Mem.hasL, lookL, setL, dropL, keepL, memN, la_faC, la_faV, la_ldC, la_ldX, la_stC, la_stM, partOf, partFits, setEl, setPart, Option.isSome_some, Option.getD_some, List.take_succ_cons, List.take_zero, List.drop_succ_cons, List.drop_zero, List.nil_append, List.cons_append, List.getD_cons_zero, List.getD_cons_succ, List.length_cons, List.length_nil, List.set_cons_zero, List.append_nil, List.drop_nil, List.take_nil, Nat.reduceAdd, Nat.reduceLT, Nat.reduceLeDiff, Nat.zero_add, Nat.add_zero, Nat.lt_add_one, Nat.le_refl, Nat.zero_le, Nat.zero_lt_succ, fillP, fillC, Nat.reduceLeDiff, lgAt, isRd, i1, i2, endK, rsC, rsV, resV]
    exact ⟨.refl _, .inr ⟨fun hk => c2 hk.2.1, rfl⟩⟩
  rw [decide_eq_true c2] at i2
  by_cases c3 : 0 ≤ code ∧ code ≤ 255
  case neg =>
    rw [decide_eq_false c3] at i3
    simp only [x_q, x_o, x_b, x_k, x_x, x_r, x_it, x_if, x_p, p_nil, p_on, p_off, p_mv, p_pk, p_bn, p_un, p_be, p_nl, p_eqa, p_ci, p_cbs, p_csb, p_ex, p_bd, p_fd, p_ix, p_ixa, p_ss, p_sl, p_sla, p_ln, p_lns, p_lnm, p_al, p_bx, p_lal, p_lbx, p_ld, p_st, p_fa, p_ia, p_iaa, p_bs, p_lbs, p_mk, p_ap, p_cp, p_cl, p_cv, p_mf, p_nc, p_mm, p_mkm, p_lk, p_mu, p_dl, p_rs, p_nx, cfC, lgPut, isOk, rv, rh, Bool.false_eq_true, d_nil, d_on, d_off, d_mv, d_pk, d_bn, d_un, d_be, d_nl, d_eqa, d_ci, d_cbs, d_csb, d_ex, d_bd, d_fd, d_ix, d_ixa, d_ss, d_sl, d_sla, d_ln, d_lns, d_lnm, d_al, d_bx, d_lal, d_lbx, d_ld, d_st, d_fa, d_ia, d_iaa, d_bs, d_lbs, d_mk, d_ap, d_cp, d_cl, d_cv, d_mf, d_nc, d_mm, d_mkm, d_lk, d_mu, d_dl, d_rs, d_nx, okO, vlO, mmO, dsO, putE, args, evT, evs, evO, look, kOps, kSeq, kBlk, keepE, reduceIte, Nat.reduceEqDiff, binC, binV, intC, intV, strC, strV, unC, unV, AV.isI, AV.isB, AV.isS, AV.toI, AV.toK, AV.toS, allOut, o_b, o_i, o_s, o_np, o_pv, o_pe, o_ns, o_sl, o_nm, o_mp, o_nf, o_fn, o_ag, q_b, q_i, q_s, q_np, q_pv, q_pe, q_ns, q_sl, q_nm, q_mp, q_nf, q_fn, q_ag, Bool.and_true, Bool.and_self, Bool.true_and, AV.b.injEq, decide_eq_true_eq, decide_eq_false_iff_not, true_and, and_true, and_self, reduceCtorEq, imp_self, implies_true, forall_const, eq_self, ex_tp, ex_ag, List.getD_cons_zero, List.getD_cons_succ, List.length_cons, List.length_nil, Nat.reduceAdd, Nat.reduceLT, Nat.zero_add, bne_self_eq_false, decide_true, decide_false, eq_self, true_implies, false_implies, forall_const, Bool.true_eq_false, Bool.not_true, Bool.not_false, not_true_eq_false, not_false_eq_true, if_true, if_false, pickV, cond_true, cond_false, boolV, fillEC, fillE, List.replicate, List.set, Mem.newL, Mem.keep, Int.reduceToNat, Nat.reduceSub, List.drop_zero, Int.reduceLE, Int.le_refl, Nat.sub_zero, Mem.newL, Mem.newL, Mem.getL, Mem.hasL, lookL, setL, dropL, keepL, memN, la_faC, la_faV, la_ldC, la_ldX, la_stC, la_stM, partOf, partFits, setEl, setPart, Option.isSome_some, Option.getD_some, List.take_succ_cons, List.take_zero, List.drop_succ_cons, List.drop_zero, List.nil_append, List.cons_append, List.getD_cons_zero, List.getD_cons_succ, List.length_cons, List.length_nil, List.set_cons_zero, List.append_nil, List.drop_nil, List.take_nil, Nat.reduceAdd, Nat.reduceLT, Nat.reduceLeDiff, Nat.zero_add, Nat.add_zero, Nat.lt_add_one, Nat.le_refl, Nat.zero_le, Nat.zero_lt_succ, fillP, fillC, Nat.reduceLeDiff, lgAt, isRd, i1, i2, i3, endK, rsC, rsV, resV]
    exact ⟨.refl _, .inr ⟨fun hk => c3 hk.2.2.1, rfl⟩⟩
  rw [decide_eq_true c3] at i3
  simp only [x_q, x_o, x_b, x_k, x_x, x_r, x_it, x_if, x_p, p_nil, p_on, p_off, p_mv, p_pk, p_bn, p_un, p_be, p_nl, p_eqa, p_ci, p_cbs, p_csb, p_ex, p_bd, p_fd, p_ix, p_ixa, p_ss, p_sl, p_sla, p_ln, p_lns, p_lnm, p_al, p_bx, p_lal, p_lbx, p_ld, p_st, p_fa, p_ia, p_iaa, p_bs, p_lbs, p_mk, p_ap, p_cp, p_cl, p_cv, p_mf, p_nc, p_mm, p_mkm, p_lk, p_mu, p_dl, p_rs, p_nx, cfC, lgPut, isOk, rv, rh, Bool.false_eq_true, d_nil, d_on, d_off, d_mv, d_pk, d_bn, d_un, d_be, d_nl, d_eqa, d_ci, d_cbs, d_csb, d_ex, d_bd, d_fd, d_ix, d_ixa, d_ss, d_sl, d_sla, d_ln, d_lns, d_lnm, d_al, d_bx, d_lal, d_lbx, d_ld, d_st, d_fa, d_ia, d_iaa, d_bs, d_lbs, d_mk, d_ap, d_cp, d_cl, d_cv, d_mf, d_nc, d_mm, d_mkm, d_lk, d_mu, d_dl, d_rs, d_nx, okO, vlO, mmO, dsO, putE, args, evT, evs, evO, look, kOps, kSeq, kBlk, keepE, reduceIte, Nat.reduceEqDiff, binC, binV, intC, intV, strC, strV, unC, unV, AV.isI, AV.isB, AV.isS, AV.toI, AV.toK, AV.toS, allOut, o_b, o_i, o_s, o_np, o_pv, o_pe, o_ns, o_sl, o_nm, o_mp, o_nf, o_fn, o_ag, q_b, q_i, q_s, q_np, q_pv, q_pe, q_ns, q_sl, q_nm, q_mp, q_nf, q_fn, q_ag, Bool.and_true, Bool.and_self, Bool.true_and, AV.b.injEq, decide_eq_true_eq, decide_eq_false_iff_not, true_and, and_true, and_self, reduceCtorEq, imp_self, implies_true, forall_const, eq_self, ex_tp, ex_ag, List.getD_cons_zero, List.getD_cons_succ, List.length_cons, List.length_nil, Nat.reduceAdd, Nat.reduceLT, Nat.zero_add, bne_self_eq_false, decide_true, decide_false, eq_self, true_implies, false_implies, forall_const, Bool.true_eq_false, Bool.not_true, Bool.not_false, not_true_eq_false, not_false_eq_true, if_true, if_false, pickV, cond_true, cond_false, boolV, fillEC, fillE, List.replicate, List.set, Mem.newL, Mem.keep, Int.reduceToNat, Nat.reduceSub, List.drop_zero, Int.reduceLE, Int.le_refl, Nat.sub_zero, Mem.newL, Mem.newL, Mem.getL, Mem.hasL, lookL, setL, dropL, keepL, memN, la_faC, la_faV, la_ldC, la_ldX, la_stC, la_stM, partOf, partFits, setEl, setPart, Option.isSome_some, Option.getD_some, List.take_succ_cons, List.take_zero, List.drop_succ_cons, List.drop_zero, List.nil_append, List.cons_append, List.getD_cons_zero, List.getD_cons_succ, List.length_cons, List.length_nil, List.set_cons_zero, List.append_nil, List.drop_nil, List.take_nil, Nat.reduceAdd, Nat.reduceLT, Nat.reduceLeDiff, Nat.zero_add, Nat.add_zero, Nat.lt_add_one, Nat.le_refl, Nat.zero_le, Nat.zero_lt_succ, fillP, fillC, Nat.reduceLeDiff, lgAt, isRd, i1, i2, i3, h1, h2]
  refine exec_loop (fun n e M => ∃ (i : Nat) (o : AV) (H' : AH) (L : List Lv) (g : Nat), i ≤ os.length ∧ n = os.length - i ∧ look e 0 = .i .i64 size ∧ look e 1 = .i .i64 code ∧ look e 2 = .i .i64 flags ∧ look e 3 = a ∧ look e 8 = .la 8 0 0 0 ∧ look e 10 = o ∧ look e 11 = .i .i64 i ∧
    M = ⟨L, g, H'⟩ ∧ keepL [0, 1, 2, 3, 8, 10, 11] L = [⟨8, 0, 0, [.ag [.s [], .i .i64 0, .i .i64 0, .i .i64 0, .s []]]⟩] ∧ Mb H' o (datO (os.take i)) ∧ Ext H H' ∧ (∀ j, j ∈ idA o → H.n ≤ j) ∧ ∀ x, x ∈ os.take i → optOk x) ?_ (n := os.length)
    ⟨0, _, _, _, _, by omega, by omega, rfl, rfl, rfl, rfl, rfl, rfl, rfl, rfl, rfl, Mb.new2 (l := []) rfl, .new _ _, fun j hj => by simp [idA, look] at hj; omega, by simp⟩
  rintro n e M ⟨i, o, H', L, g, hi, rfl, q0, q1, q2, q3, q8, q10, q11, rfl, hL, hm, he, hid, hok⟩
  by_cases hlt : (i : Int) < os.length
  · have hil : i < os.length := by omega
    obtain ⟨b1, b2, b3, b4⟩ := Sx.at' (Sl.ext h he) hil
    simp only [show eO.z = 2 from rfl, show eO.v os[i] = AV.ag [.i .i64 (os[i]).1, .s (os[i]).2] from rfl] at b1 b3 b4
    have hmem : os[i] ∈ os := List.getElem_mem hil
    have hcall := hI (os[i]).1 65535 H'
    have hw : (os[i]).2.length ≤ 1048576 := by have := tot_mem' (w := wO) hmem; simp only [wO] at this; omega
    have hpre : ∀ x, x ∈ os.take (i + 1) → x ∈ os.take i ∨ x = os[i] := fun x hx => by
      rw [← List.take_append_getElem hil] at hx
      exact (List.mem_append.1 hx).imp id fun h => by simpa using h
    by_cases d1 : 0 ≤ (os[i]).1 ∧ (os[i]).1 ≤ 65535
    case neg =>
      rw [decide_eq_false d1] at hcall
      simp only [x_q, x_o, x_b, x_k, x_x, x_r, x_it, x_if, x_p, p_nil, p_on, p_off, p_mv, p_pk, p_bn, p_un, p_be, p_nl, p_eqa, p_ci, p_cbs, p_csb, p_ex, p_bd, p_fd, p_ix, p_ixa, p_ss, p_sl, p_sla, p_ln, p_lns, p_lnm, p_al, p_bx, p_lal, p_lbx, p_ld, p_st, p_fa, p_ia, p_iaa, p_bs, p_lbs, p_mk, p_ap, p_cp, p_cl, p_cv, p_mf, p_nc, p_mm, p_mkm, p_lk, p_mu, p_dl, p_rs, p_nx, cfC, lgPut, isOk, rv, rh, Bool.false_eq_true, d_nil, d_on, d_off, d_mv, d_pk, d_bn, d_un, d_be, d_nl, d_eqa, d_ci, d_cbs, d_csb, d_ex, d_bd, d_fd, d_ix, d_ixa, d_ss, d_sl, d_sla, d_ln, d_lns, d_lnm, d_al, d_bx, d_lal, d_lbx, d_ld, d_st, d_fa, d_ia, d_iaa, d_bs, d_lbs, d_mk, d_ap, d_cp, d_cl, d_cv, d_mf, d_nc, d_mm, d_mkm, d_lk, d_mu, d_dl, d_rs, d_nx, okO, vlO, mmO, dsO, putE, args, evT, evs, evO, look, kOps, kSeq, kBlk, keepE, reduceIte, Nat.reduceEqDiff, binC, binV, intC, intV, strC, strV, unC, unV, AV.isI, AV.isB, AV.isS, AV.toI, AV.toK, AV.toS, allOut, o_b, o_i, o_s, o_np, o_pv, o_pe, o_ns, o_sl, o_nm, o_mp, o_nf, o_fn, o_ag, q_b, q_i, q_s, q_np, q_pv, q_pe, q_ns, q_sl, q_nm, q_mp, q_nf, q_fn, q_ag, Bool.and_true, Bool.and_self, Bool.true_and, AV.b.injEq, decide_eq_true_eq, decide_eq_false_iff_not, true_and, and_true, and_self, reduceCtorEq, imp_self, implies_true, forall_const, eq_self, ex_tp, ex_ag, List.getD_cons_zero, List.getD_cons_succ, List.length_cons, List.length_nil, Nat.reduceAdd, Nat.reduceLT, Nat.zero_add, bne_self_eq_false, decide_true, decide_false, eq_self, true_implies, false_implies, forall_const, Bool.true_eq_false, Bool.not_true, Bool.not_false, not_true_eq_false, not_false_eq_true, if_true, if_false, pickV, cond_true, cond_false, boolV, fillEC, fillE, List.replicate, List.set, Mem.newL, Mem.keep, Int.reduceToNat, Nat.reduceSub, List.drop_zero, Int.reduceLE, Int.le_refl, Nat.sub_zero, Mem.newL, Mem.newL, Mem.getL, Mem.hasL, lookL, setL, dropL, keepL, memN, la_faC, la_faV, la_ldC, la_ldX, la_stC, la_stM, partOf, partFits, setEl, setPart, Option.isSome_some, Option.getD_some, List.take_succ_cons, List.take_zero, List.drop_succ_cons, List.drop_zero, List.nil_append, List.cons_append, List.getD_cons_zero, List.getD_cons_succ, List.length_cons, List.length_nil, List.set_cons_zero, List.append_nil, List.drop_nil, List.take_nil, Nat.reduceAdd, Nat.reduceLT, Nat.reduceLeDiff, Nat.zero_add, Nat.add_zero, Nat.lt_add_one, Nat.le_refl, Nat.zero_le, Nat.zero_lt_succ, fillP, fillC, Nat.reduceLeDiff, lgAt, isRd, q0, q1, q2, q3, q8, q10, q11, h1, h2, hlt, hL, b1, b2, b3, b4, toNat_nat, hcall, endK, rsC, rsV, resV]
      exact ⟨he, .inr ⟨fun hk => d1 ⟨(hk.2.2.2.1 _ hmem).1, (hk.2.2.2.1 _ hmem).2.1⟩, rfl⟩⟩
    rw [decide_eq_true d1] at hcall
    by_cases d2 : (65535 : Int) < (os[i]).2.length
    · simp only [x_q, x_o, x_b, x_k, x_x, x_r, x_it, x_if, x_p, p_nil, p_on, p_off, p_mv, p_pk, p_bn, p_un, p_be, p_nl, p_eqa, p_ci, p_cbs, p_csb, p_ex, p_bd, p_fd, p_ix, p_ixa, p_ss, p_sl, p_sla, p_ln, p_lns, p_lnm, p_al, p_bx, p_lal, p_lbx, p_ld, p_st, p_fa, p_ia, p_iaa, p_bs, p_lbs, p_mk, p_ap, p_cp, p_cl, p_cv, p_mf, p_nc, p_mm, p_mkm, p_lk, p_mu, p_dl, p_rs, p_nx, cfC, lgPut, isOk, rv, rh, Bool.false_eq_true, d_nil, d_on, d_off, d_mv, d_pk, d_bn, d_un, d_be, d_nl, d_eqa, d_ci, d_cbs, d_csb, d_ex, d_bd, d_fd, d_ix, d_ixa, d_ss, d_sl, d_sla, d_ln, d_lns, d_lnm, d_al, d_bx, d_lal, d_lbx, d_ld, d_st, d_fa, d_ia, d_iaa, d_bs, d_lbs, d_mk, d_ap, d_cp, d_cl, d_cv, d_mf, d_nc, d_mm, d_mkm, d_lk, d_mu, d_dl, d_rs, d_nx, okO, vlO, mmO, dsO, putE, args, evT, evs, evO, look, kOps, kSeq, kBlk, keepE, reduceIte, Nat.reduceEqDiff, binC, binV, intC, intV, strC, strV, unC, unV, AV.isI, AV.isB, AV.isS, AV.toI, AV.toK, AV.toS, allOut, o_b, o_i, o_s, o_np, o_pv, o_pe, o_ns, o_sl, o_nm, o_mp, o_nf, o_fn, o_ag, q_b, q_i, q_s, q_np, q_pv, q_pe, q_ns, q_sl, q_nm, q_mp, q_nf, q_fn, q_ag, Bool.and_true, Bool.and_self, Bool.true_and, AV.b.injEq, decide_eq_true_eq, decide_eq_false_iff_not, true_and, and_true, and_self, reduceCtorEq, imp_self, implies_true, forall_const, eq_self, ex_tp, ex_ag, List.getD_cons_zero, List.getD_cons_succ, List.length_cons, List.length_nil, Nat.reduceAdd, Nat.reduceLT, Nat.zero_add, bne_self_eq_false, decide_true, decide_false, eq_self, true_implies, false_implies, forall_const, Bool.true_eq_false, Bool.not_true, Bool.not_false, not_true_eq_false, not_false_eq_true, if_true, if_false, pickV, cond_true, cond_false, boolV, fillEC, fillE, List.replicate, List.set, Mem.newL, Mem.keep, Int.reduceToNat, Nat.reduceSub, List.drop_zero, Int.reduceLE, Int.le_refl, Nat.sub_zero, Mem.newL, Mem.newL, Mem.getL, Mem.hasL, lookL, setL, dropL, keepL, memN, la_faC, la_faV, la_ldC, la_ldX, la_stC, la_stM, partOf, partFits, setEl, setPart, Option.isSome_some, Option.getD_some, List.take_succ_cons, List.take_zero, List.drop_succ_cons, List.drop_zero, List.nil_append, List.cons_append, List.getD_cons_zero, List.getD_cons_succ, List.length_cons, List.length_nil, List.set_cons_zero, List.append_nil, List.drop_nil, List.take_nil, Nat.reduceAdd, Nat.reduceLT, Nat.reduceLeDiff, Nat.zero_add, Nat.add_zero, Nat.lt_add_one, Nat.le_refl, Nat.zero_le, Nat.zero_lt_succ, fillP, fillC, Nat.reduceLeDiff, lgAt, isRd, q0, q1, q2, q3, q8, q10, q11, h1, h2, hlt, hL, b1, b2, b3, b4, toNat_nat, hcall, d2, endK, rsC, rsV, resV]
      exact ⟨he, .inr ⟨fun hk => by have := (hk.2.2.2.1 _ hmem).2.2; omega, rfl⟩⟩
    obtain ⟨H1, p1, p2⟩ := hP (os[i]).1.toNat H' (by omega)
    obtain ⟨H2, p3, p4⟩ := hP (os[i]).2.length H1 (by omega)
    rw [Int.toNat_of_nonneg d1.1] at p1
    have he2 := he.trans (p2.trans p4)
    have hm2 := hm.ext (p2.trans p4)
    have hok2 : ∀ x, x ∈ os.take (i + 1) → optOk x := fun x hx => (hpre x hx).elim (hok x) fun e => e ▸ ⟨d1.1, d1.2, by omega⟩
    simp only [x_q, x_o, x_b, x_k, x_x, x_r, x_it, x_if, x_p, p_nil, p_on, p_off, p_mv, p_pk, p_bn, p_un, p_be, p_nl, p_eqa, p_ci, p_cbs, p_csb, p_ex, p_bd, p_fd, p_ix, p_ixa, p_ss, p_sl, p_sla, p_ln, p_lns, p_lnm, p_al, p_bx, p_lal, p_lbx, p_ld, p_st, p_fa, p_ia, p_iaa, p_bs, p_lbs, p_mk, p_ap, p_cp, p_cl, p_cv, p_mf, p_nc, p_mm, p_mkm, p_lk, p_mu, p_dl, p_rs, p_nx, cfC, lgPut, isOk, rv, rh, Bool.false_eq_true, d_nil, d_on, d_off, d_mv, d_pk, d_bn, d_un, d_be, d_nl, d_eqa, d_ci, d_cbs, d_csb, d_ex, d_bd, d_fd, d_ix, d_ixa, d_ss, d_sl, d_sla, d_ln, d_lns, d_lnm, d_al, d_bx, d_lal, d_lbx, d_ld, d_st, d_fa, d_ia, d_iaa, d_bs, d_lbs, d_mk, d_ap, d_cp, d_cl, d_cv, d_mf, d_nc, d_mm, d_mkm, d_lk, d_mu, d_dl, d_rs, d_nx, okO, vlO, mmO, dsO, putE, args, evT, evs, evO, look, kOps, kSeq, kBlk, keepE, reduceIte, Nat.reduceEqDiff, binC, binV, intC, intV, strC, strV, unC, unV, AV.isI, AV.isB, AV.isS, AV.toI, AV.toK, AV.toS, allOut, o_b, o_i, o_s, o_np, o_pv, o_pe, o_ns, o_sl, o_nm, o_mp, o_nf, o_fn, o_ag, q_b, q_i, q_s, q_np, q_pv, q_pe, q_ns, q_sl, q_nm, q_mp, q_nf, q_fn, q_ag, Bool.and_true, Bool.and_self, Bool.true_and, AV.b.injEq, decide_eq_true_eq, decide_eq_false_iff_not, true_and, and_true, and_self, reduceCtorEq, imp_self, implies_true, forall_const, eq_self, ex_tp, ex_ag, List.getD_cons_zero, List.getD_cons_succ, List.length_cons, List.length_nil, Nat.reduceAdd, Nat.reduceLT, Nat.zero_add, bne_self_eq_false, decide_true, decide_false, eq_self, true_implies, false_implies, forall_const, Bool.true_eq_false, Bool.not_true, Bool.not_false, not_true_eq_false, not_false_eq_true, if_true, if_false, pickV, cond_true, cond_false, boolV, fillEC, fillE, List.replicate, List.set, Mem.newL, Mem.keep, Int.reduceToNat, Nat.reduceSub, List.drop_zero, Int.reduceLE, Int.le_refl, Nat.sub_zero, Mem.newL, Mem.newL, Mem.getL, Mem.hasL, lookL, setL, dropL, keepL, memN, la_faC, la_faV, la_ldC, la_ldX, la_stC, la_stM, partOf, partFits, setEl, setPart, Option.isSome_some, Option.getD_some, List.take_succ_cons, List.take_zero, List.drop_succ_cons, List.drop_zero, List.nil_append, List.cons_append, List.getD_cons_zero, List.getD_cons_succ, List.length_cons, List.length_nil, List.set_cons_zero, List.append_nil, List.drop_nil, List.take_nil, Nat.reduceAdd, Nat.reduceLT, Nat.reduceLeDiff, Nat.zero_add, Nat.add_zero, Nat.lt_add_one, Nat.le_refl, Nat.zero_le, Nat.zero_lt_succ, fillP, fillC, Nat.reduceLeDiff, lgAt, isRd, q0, q1, q2, q3, q8, q10, q11, h1, h2, hlt, hL, b1, b2, b3, b4, toNat_nat, hcall, d2, p1, p3,]
    have hpl : (datO (os.take i)).length ≤ (datO os).length := datO_pre i
    have hdl := datO_len os
    have hw2 : (be16 (os[i]).1.toNat ++ be16 (os[i]).2.length ++ (os[i]).2) = wire os[i] := rfl
    have hwl : (wire os[i]).length ≤ 1048580 := by simp [wire, be16]; omega
    rw [hw2]
    generalize hsw : wire os[i] = sw at hwl hw2 ⊢
    refine ⟨by simp [be16], by simp [be16]; omega, ?_⟩
    refine exec_loop (fun n e M => ∃ (j : Nat) (o : AV) (H' : AH) (L : List Lv) (g : Nat), j ≤ sw.length ∧ n = sw.length - j ∧ look e 0 = .i .i64 size ∧ look e 1 = .i .i64 code ∧ look e 2 = .i .i64 flags ∧ look e 3 = a ∧ look e 8 = .la 8 0 0 0 ∧ look e 10 = o ∧ look e 11 = .i .i64 i ∧ look e 13 = .s sw ∧ look e 14 = .i .i64 j ∧
      M = ⟨L, g, H'⟩ ∧ keepL [0, 1, 2, 3, 8, 10, 11, 13, 14] L = [⟨8, 0, 0, [.ag [.s [], .i .i64 0, .i .i64 0, .i .i64 0, .s []]]⟩] ∧ Mb H' o (datO (os.take i) ++ sw.take j) ∧ Ext H H' ∧ (∀ j, j ∈ idA o → H.n ≤ j)) ?_ (n := sw.length)
      ⟨0, o, _, _, _, by omega, by omega, rfl, rfl, rfl, rfl, rfl, rfl, rfl, rfl, rfl, rfl, rfl, by simpa using hm2, he2, hid⟩
    clear hm2 he2 hid he hm p1 p3 p2 p4 hcall b1 b2 b3 b4 q0 q1 q2 q3 q8 q10 q11 hL
    rintro n e M ⟨j, o, H', L, g, hj, rfl, q0, q1, q2, q3, q8, q10, q11, q13, q14, rfl, hL, hm, he, hid⟩
    by_cases hjl : (j : Int) < sw.length
    · have hjn : j < sw.length := by omega
      obtain ⟨p1, o', H2, p2, p3, p4, p5, p6, p7, -⟩ := Mn.ap (by' := 1) hm (lit_src (t := 72) (g := g) (x := .i .u8 (sw.getD j 0).toNat) (L := [⟨8, 0, 0, [.ag [.s [], .i .i64 0, .i .i64 0, .i .i64 0, .s []]]⟩]) (H := H')) (by simp; omega)
      have e1 : (0 : Int) ≤ j := by omega
      simp only [x_q, x_o, x_b, x_k, x_x, x_r, x_it, x_if, x_p, p_nil, p_on, p_off, p_mv, p_pk, p_bn, p_un, p_be, p_nl, p_eqa, p_ci, p_cbs, p_csb, p_ex, p_bd, p_fd, p_ix, p_ixa, p_ss, p_sl, p_sla, p_ln, p_lns, p_lnm, p_al, p_bx, p_lal, p_lbx, p_ld, p_st, p_fa, p_ia, p_iaa, p_bs, p_lbs, p_mk, p_ap, p_cp, p_cl, p_cv, p_mf, p_nc, p_mm, p_mkm, p_lk, p_mu, p_dl, p_rs, p_nx, cfC, lgPut, isOk, rv, rh, Bool.false_eq_true, d_nil, d_on, d_off, d_mv, d_pk, d_bn, d_un, d_be, d_nl, d_eqa, d_ci, d_cbs, d_csb, d_ex, d_bd, d_fd, d_ix, d_ixa, d_ss, d_sl, d_sla, d_ln, d_lns, d_lnm, d_al, d_bx, d_lal, d_lbx, d_ld, d_st, d_fa, d_ia, d_iaa, d_bs, d_lbs, d_mk, d_ap, d_cp, d_cl, d_cv, d_mf, d_nc, d_mm, d_mkm, d_lk, d_mu, d_dl, d_rs, d_nx, okO, vlO, mmO, dsO, putE, args, evT, evs, evO, look, kOps, kSeq, kBlk, keepE, reduceIte, Nat.reduceEqDiff, binC, binV, intC, intV, strC, strV, unC, unV, AV.isI, AV.isB, AV.isS, AV.toI, AV.toK, AV.toS, allOut, o_b, o_i, o_s, o_np, o_pv, o_pe, o_ns, o_sl, o_nm, o_mp, o_nf, o_fn, o_ag, q_b, q_i, q_s, q_np, q_pv, q_pe, q_ns, q_sl, q_nm, q_mp, q_nf, q_fn, q_ag, Bool.and_true, Bool.and_self, Bool.true_and, AV.b.injEq, decide_eq_true_eq, decide_eq_false_iff_not, true_and, and_true, and_self, reduceCtorEq, imp_self, implies_true, forall_const, eq_self, ex_tp, ex_ag, List.getD_cons_zero, List.getD_cons_succ, List.length_cons, List.length_nil, Nat.reduceAdd, Nat.reduceLT, Nat.zero_add, bne_self_eq_false, decide_true, decide_false, eq_self, true_implies, false_implies, forall_const, Bool.true_eq_false, Bool.not_true, Bool.not_false, not_true_eq_false, not_false_eq_true, if_true, if_false, pickV, cond_true, cond_false, boolV, fillEC, fillE, List.replicate, List.set, Mem.newL, Mem.keep, Int.reduceToNat, Nat.reduceSub, List.drop_zero, Int.reduceLE, Int.le_refl, Nat.sub_zero, Mem.newL, Mem.newL, Mem.getL, Mem.hasL, lookL, setL, dropL, keepL, memN, la_faC, la_faV, la_ldC, la_ldX, la_stC, la_stM, partOf, partFits, setEl, setPart, Option.isSome_some, Option.getD_some, List.take_succ_cons, List.take_zero, List.drop_succ_cons, List.drop_zero, List.nil_append, List.cons_append, List.getD_cons_zero, List.getD_cons_succ, List.length_cons, List.length_nil, List.set_cons_zero, List.append_nil, List.drop_nil, List.take_nil, Nat.reduceAdd, Nat.reduceLT, Nat.reduceLeDiff, Nat.zero_add, Nat.add_zero, Nat.lt_add_one, Nat.le_refl, Nat.zero_le, Nat.zero_lt_succ, fillP, fillC, Nat.reduceLeDiff, lgAt, isRd, q0, q1, q2, q3, q8, q10, q11, q13, q14, hjl, hL, toNat_nat, fillEC, fillE, List.replicate, List.set, e1]
      simp only [p1, p2, p3, x_q, x_o, x_b, x_k, x_x, x_r, x_it, x_if, x_p, p_nil, p_on, p_off, p_mv, p_pk, p_bn, p_un, p_be, p_nl, p_eqa, p_ci, p_cbs, p_csb, p_ex, p_bd, p_fd, p_ix, p_ixa, p_ss, p_sl, p_sla, p_ln, p_lns, p_lnm, p_al, p_bx, p_lal, p_lbx, p_ld, p_st, p_fa, p_ia, p_iaa, p_bs, p_lbs, p_mk, p_ap, p_cp, p_cl, p_cv, p_mf, p_nc, p_mm, p_mkm, p_lk, p_mu, p_dl, p_rs, p_nx, cfC, lgPut, isOk, rv, rh, Bool.false_eq_true, d_nil, d_on, d_off, d_mv, d_pk, d_bn, d_un, d_be, d_nl, d_eqa, d_ci, d_cbs, d_csb, d_ex, d_bd, d_fd, d_ix, d_ixa, d_ss, d_sl, d_sla, d_ln, d_lns, d_lnm, d_al, d_bx, d_lal, d_lbx, d_ld, d_st, d_fa, d_ia, d_iaa, d_bs, d_lbs, d_mk, d_ap, d_cp, d_cl, d_cv, d_mf, d_nc, d_mm, d_mkm, d_lk, d_mu, d_dl, d_rs, d_nx, okO, vlO, mmO, dsO, putE, args, evT, evs, evO, look, kOps, kSeq, kBlk, keepE, reduceIte, Nat.reduceEqDiff, binC, binV, intC, intV, strC, strV, unC, unV, AV.isI, AV.isB, AV.isS, AV.toI, AV.toK, AV.toS, allOut, o_b, o_i, o_s, o_np, o_pv, o_pe, o_ns, o_sl, o_nm, o_mp, o_nf, o_fn, o_ag, q_b, q_i, q_s, q_np, q_pv, q_pe, q_ns, q_sl, q_nm, q_mp, q_nf, q_fn, q_ag, Bool.and_true, Bool.and_self, Bool.true_and, AV.b.injEq, decide_eq_true_eq, decide_eq_false_iff_not, true_and, and_true, and_self, reduceCtorEq, imp_self, implies_true, forall_const, eq_self, ex_tp, ex_ag, List.getD_cons_zero, List.getD_cons_succ, List.length_cons, List.length_nil, Nat.reduceAdd, Nat.reduceLT, Nat.zero_add, bne_self_eq_false]
      refine ⟨sw.length - (j + 1), by omega, j + 1, o', H2, _, _, by omega, rfl, rfl, by rw [w64 (by omega) (by omega)]; rfl, rfl, rfl, ?_, he.put hid p5 p6, ?_⟩
      · have e2 : sw.take (j + 1) = sw.take j ++ [sw.getD j 0] := by
          rw [← List.take_append_getElem hjn]; simp [List.getD, hjn]
        unfold Mb
        rw [e2, ← List.append_assoc, enc_app]
        exact p4
      · intro k hk
        rcases p7 k hk with h | h
        · exact hid k h
        · have := he.n; omega
    · have hjn : j = sw.length := by omega
      subst hjn
      simp only [x_q, x_o, x_b, x_k, x_x, x_r, x_it, x_if, x_p, p_nil, p_on, p_off, p_mv, p_pk, p_bn, p_un, p_be, p_nl, p_eqa, p_ci, p_cbs, p_csb, p_ex, p_bd, p_fd, p_ix, p_ixa, p_ss, p_sl, p_sla, p_ln, p_lns, p_lnm, p_al, p_bx, p_lal, p_lbx, p_ld, p_st, p_fa, p_ia, p_iaa, p_bs, p_lbs, p_mk, p_ap, p_cp, p_cl, p_cv, p_mf, p_nc, p_mm, p_mkm, p_lk, p_mu, p_dl, p_rs, p_nx, cfC, lgPut, isOk, rv, rh, Bool.false_eq_true, d_nil, d_on, d_off, d_mv, d_pk, d_bn, d_un, d_be, d_nl, d_eqa, d_ci, d_cbs, d_csb, d_ex, d_bd, d_fd, d_ix, d_ixa, d_ss, d_sl, d_sla, d_ln, d_lns, d_lnm, d_al, d_bx, d_lal, d_lbx, d_ld, d_st, d_fa, d_ia, d_iaa, d_bs, d_lbs, d_mk, d_ap, d_cp, d_cl, d_cv, d_mf, d_nc, d_mm, d_mkm, d_lk, d_mu, d_dl, d_rs, d_nx, okO, vlO, mmO, dsO, putE, args, evT, evs, evO, look, kOps, kSeq, kBlk, keepE, reduceIte, Nat.reduceEqDiff, binC, binV, intC, intV, strC, strV, unC, unV, AV.isI, AV.isB, AV.isS, AV.toI, AV.toK, AV.toS, allOut, o_b, o_i, o_s, o_np, o_pv, o_pe, o_ns, o_sl, o_nm, o_mp, o_nf, o_fn, o_ag, q_b, q_i, q_s, q_np, q_pv, q_pe, q_ns, q_sl, q_nm, q_mp, q_nf, q_fn, q_ag, Bool.and_true, Bool.and_self, Bool.true_and, AV.b.injEq, decide_eq_true_eq, decide_eq_false_iff_not, true_and, and_true, and_self, reduceCtorEq, imp_self, implies_true, forall_const, eq_self, ex_tp, ex_ag, List.getD_cons_zero, List.getD_cons_succ, List.length_cons, List.length_nil, Nat.reduceAdd, Nat.reduceLT, Nat.zero_add, bne_self_eq_false, decide_true, decide_false, eq_self, true_implies, false_implies, forall_const, Bool.true_eq_false, Bool.not_true, Bool.not_false, not_true_eq_false, not_false_eq_true, if_true, if_false, pickV, cond_true, cond_false, boolV, fillEC, fillE, List.replicate, List.set, Mem.newL, Mem.keep, Int.reduceToNat, Nat.reduceSub, List.drop_zero, Int.reduceLE, Int.le_refl, Nat.sub_zero, Mem.newL, Mem.newL, Mem.getL, Mem.hasL, lookL, setL, dropL, keepL, memN, la_faC, la_faV, la_ldC, la_ldX, la_stC, la_stM, partOf, partFits, setEl, setPart, Option.isSome_some, Option.getD_some, List.take_succ_cons, List.take_zero, List.drop_succ_cons, List.drop_zero, List.nil_append, List.cons_append, List.getD_cons_zero, List.getD_cons_succ, List.length_cons, List.length_nil, List.set_cons_zero, List.append_nil, List.drop_nil, List.take_nil, Nat.reduceAdd, Nat.reduceLT, Nat.reduceLeDiff, Nat.zero_add, Nat.add_zero, Nat.lt_add_one, Nat.le_refl, Nat.zero_le, Nat.zero_lt_succ, fillP, fillC, Nat.reduceLeDiff, lgAt, isRd, q0, q1, q2, q3, q8, q10, q11, q13, q14, hjl, hL, toNat_nat]
      rw [List.take_length] at hm
      refine ⟨os.length - (i + 1), by omega, i + 1, o, H', _, _, by omega, rfl, rfl, by rw [w64 (by omega) (by omega)]; rfl, rfl, rfl, ?_, he, hid, hok2⟩
      rw [← List.take_append_getElem hil, datO_snoc, hsw]
      exact hm
  · have hil : i = os.length := by omega
    subst hil
    rw [List.take_length] at hm hok
    obtain ⟨k1, k2⟩ := Byt.len hm.sl
    obtain ⟨k3, k4⟩ := Byt.cbs hm.sl
    have v1 : (2 : Int) ^ (min 24 IntKind.i64.bits) = 16777216 := by decide
    have v2 : IntKind.i64.wrap (code * 16777216) = code * 16777216 := w64 (by omega) (by omega)
    have v3 : IntKind.i64.wrap (code * 16777216 + flags) = code * 16777216 + flags := w64 (by omega) (by omega)
    by_cases c4 : (65535 : Int) < (datO os).length
    · simp only [x_q, x_o, x_b, x_k, x_x, x_r, x_it, x_if, x_p, p_nil, p_on, p_off, p_mv, p_pk, p_bn, p_un, p_be, p_nl, p_eqa, p_ci, p_cbs, p_csb, p_ex, p_bd, p_fd, p_ix, p_ixa, p_ss, p_sl, p_sla, p_ln, p_lns, p_lnm, p_al, p_bx, p_lal, p_lbx, p_ld, p_st, p_fa, p_ia, p_iaa, p_bs, p_lbs, p_mk, p_ap, p_cp, p_cl, p_cv, p_mf, p_nc, p_mm, p_mkm, p_lk, p_mu, p_dl, p_rs, p_nx, cfC, lgPut, isOk, rv, rh, Bool.false_eq_true, d_nil, d_on, d_off, d_mv, d_pk, d_bn, d_un, d_be, d_nl, d_eqa, d_ci, d_cbs, d_csb, d_ex, d_bd, d_fd, d_ix, d_ixa, d_ss, d_sl, d_sla, d_ln, d_lns, d_lnm, d_al, d_bx, d_lal, d_lbx, d_ld, d_st, d_fa, d_ia, d_iaa, d_bs, d_lbs, d_mk, d_ap, d_cp, d_cl, d_cv, d_mf, d_nc, d_mm, d_mkm, d_lk, d_mu, d_dl, d_rs, d_nx, okO, vlO, mmO, dsO, putE, args, evT, evs, evO, look, kOps, kSeq, kBlk, keepE, reduceIte, Nat.reduceEqDiff, binC, binV, intC, intV, strC, strV, unC, unV, AV.isI, AV.isB, AV.isS, AV.toI, AV.toK, AV.toS, allOut, o_b, o_i, o_s, o_np, o_pv, o_pe, o_ns, o_sl, o_nm, o_mp, o_nf, o_fn, o_ag, q_b, q_i, q_s, q_np, q_pv, q_pe, q_ns, q_sl, q_nm, q_mp, q_nf, q_fn, q_ag, Bool.and_true, Bool.and_self, Bool.true_and, AV.b.injEq, decide_eq_true_eq, decide_eq_false_iff_not, true_and, and_true, and_self, reduceCtorEq, imp_self, implies_true, forall_const, eq_self, ex_tp, ex_ag, List.getD_cons_zero, List.getD_cons_succ, List.length_cons, List.length_nil, Nat.reduceAdd, Nat.reduceLT, Nat.zero_add, bne_self_eq_false, decide_true, decide_false, eq_self, true_implies, false_implies, forall_const, Bool.true_eq_false, Bool.not_true, Bool.not_false, not_true_eq_false, not_false_eq_true, if_true, if_false, pickV, cond_true, cond_false, boolV, fillEC, fillE, List.replicate, List.set, Mem.newL, Mem.keep, Int.reduceToNat, Nat.reduceSub, List.drop_zero, Int.reduceLE, Int.le_refl, Nat.sub_zero, Mem.newL, Mem.newL, Mem.getL, Mem.hasL, lookL, setL, dropL, keepL, memN, la_faC, la_faV, la_ldC, la_ldX, la_stC, la_stM, partOf, partFits, setEl, setPart, Option.isSome_some, Option.getD_some, List.take_succ_cons, List.take_zero, List.drop_succ_cons, List.drop_zero, List.nil_append, List.cons_append, List.getD_cons_zero, List.getD_cons_succ, List.length_cons, List.length_nil, List.set_cons_zero, List.append_nil, List.drop_nil, List.take_nil, Nat.reduceAdd, Nat.reduceLT, Nat.reduceLeDiff, Nat.zero_add, Nat.add_zero, Nat.lt_add_one, Nat.le_refl, Nat.zero_le, Nat.zero_lt_succ, fillP, fillC, Nat.reduceLeDiff, lgAt, isRd, q0, q1, q2, q3, q8, q10, q11, h1, h2, hlt, hL, k1, k2, c4, endK, rsC, rsV, resV]
      exact ⟨he, .inr ⟨fun hk => by have := hk.2.2.2.2; omega, rfl⟩⟩
    · simp only [x_q, x_o, x_b, x_k, x_x, x_r, x_it, x_if, x_p, p_nil, p_on, p_off, p_mv, p_pk, p_bn, p_un, p_be, p_nl, p_eqa, p_ci, p_cbs, p_csb, p_ex, p_bd, p_fd, p_ix, p_ixa, p_ss, p_sl, p_sla, p_ln, p_lns, p_lnm, p_al, p_bx, p_lal, p_lbx, p_ld, p_st, p_fa, p_ia, p_iaa, p_bs, p_lbs, p_mk, p_ap, p_cp, p_cl, p_cv, p_mf, p_nc, p_mm, p_mkm, p_lk, p_mu, p_dl, p_rs, p_nx, cfC, lgPut, isOk, rv, rh, Bool.false_eq_true, d_nil, d_on, d_off, d_mv, d_pk, d_bn, d_un, d_be, d_nl, d_eqa, d_ci, d_cbs, d_csb, d_ex, d_bd, d_fd, d_ix, d_ixa, d_ss, d_sl, d_sla, d_ln, d_lns, d_lnm, d_al, d_bx, d_lal, d_lbx, d_ld, d_st, d_fa, d_ia, d_iaa, d_bs, d_lbs, d_mk, d_ap, d_cp, d_cl, d_cv, d_mf, d_nc, d_mm, d_mkm, d_lk, d_mu, d_dl, d_rs, d_nx, okO, vlO, mmO, dsO, putE, args, evT, evs, evO, look, kOps, kSeq, kBlk, keepE, reduceIte, Nat.reduceEqDiff, binC, binV, intC, intV, strC, strV, unC, unV, AV.isI, AV.isB, AV.isS, AV.toI, AV.toK, AV.toS, allOut, o_b, o_i, o_s, o_np, o_pv, o_pe, o_ns, o_sl, o_nm, o_mp, o_nf, o_fn, o_ag, q_b, q_i, q_s, q_np, q_pv, q_pe, q_ns, q_sl, q_nm, q_mp, q_nf, q_fn, q_ag, Bool.and_true, Bool.and_self, Bool.true_and, AV.b.injEq, decide_eq_true_eq, decide_eq_false_iff_not, true_and, and_true, and_self, reduceCtorEq, imp_self, implies_true, forall_const, eq_self, ex_tp, ex_ag, List.getD_cons_zero, List.getD_cons_succ, List.length_cons, List.length_nil, Nat.reduceAdd, Nat.reduceLT, Nat.zero_add, bne_self_eq_false, decide_true, decide_false, eq_self, true_implies, false_implies, forall_const, Bool.true_eq_false, Bool.not_true, Bool.not_false, not_true_eq_false, not_false_eq_true, if_true, if_false, pickV, cond_true, cond_false, boolV, fillEC, fillE, List.replicate, List.set, Mem.newL, Mem.keep, Int.reduceToNat, Nat.reduceSub, List.drop_zero, Int.reduceLE, Int.le_refl, Nat.sub_zero, Mem.newL, Mem.newL, Mem.getL, Mem.hasL, lookL, setL, dropL, keepL, memN, la_faC, la_faV, la_ldC, la_ldX, la_stC, la_stM, partOf, partFits, setEl, setPart, Option.isSome_some, Option.getD_some, List.take_succ_cons, List.take_zero, List.drop_succ_cons, List.drop_zero, List.nil_append, List.cons_append, List.getD_cons_zero, List.getD_cons_succ, List.length_cons, List.length_nil, List.set_cons_zero, List.append_nil, List.drop_nil, List.take_nil, Nat.reduceAdd, Nat.reduceLT, Nat.reduceLeDiff, Nat.zero_add, Nat.add_zero, Nat.lt_add_one, Nat.le_refl, Nat.zero_le, Nat.zero_lt_succ, fillP, fillC, Nat.reduceLeDiff, lgAt, isRd, q0, q1, q2, q3, q8, q10, q11, h1, h2, hlt, hL, k1, k2, k3, k4, c4, v1, v2, v3, endK, rsC, rsV, resV]
      exact ⟨he, .inl ⟨⟨c1, c2, c3, hok, by omega⟩, rfl⟩⟩
end
end Go.Vm

/- EdnsRecord: the program's run, and the law's. -/
namespace Go.Vm
set_option linter.unusedVariables false
set_option linter.unusedSimpArgs false
theorem or_hi {x y : Nat} {k : Nat} (hy : y < 2 ^ k) (h : x * 2 ^ k + y < 9223372036854775808) : bitw .or .i64 ((x * 2 ^ k : Nat) : Int) (y : Int) = ((x * 2 ^ k + y : Nat) : Int) := by
  have e2 : x * 2 ^ k ||| y = x * 2 ^ k + y := by
    have := Nat.two_pow_add_eq_or_of_lt (i := k) (b := y) hy x
    rw [Nat.mul_comm]; exact this.symm
  unfold bitw
  simp only
  rw [show IntKind.i64.bits = 64 from rfl, BitVec.ofInt_natCast, BitVec.ofInt_natCast, BitVec.toNat_or, BitVec.toNat_ofNat, BitVec.toNat_ofNat, Nat.mod_eq_of_lt (by omega), Nat.mod_eq_of_lt (by omega), e2, w64 (by omega) (by omega)]
section
variable {C : Tab}
theorem r_impl_EdnsRecord {a : AV} {os : List Opt} {size code flags : Int} {H : AH} (hI : T_within C n_impl_within) (hP : T_p16 C n_impl_p16) (h : Sx H eO a os) (hn : os.length + tot' wO os ≤ 1048576) :
    Runs C c_impl_EdnsRecord [.i .i64 size, .i .i64 code, .i .i64 flags, a] H (EdPost size code flags os H) := by
  unfold Runs c_impl_EdnsRecord
  have i1 := hI size 0 65535 H
  have i2 := hI flags 0 65535 H
  have i3 := hI code 0 255 H
  obtain ⟨h1, h2⟩ := h.len
  by_cases c1 : 0 ≤ size ∧ size ≤ 65535
  case neg =>
    rw [decide_eq_false c1] at i1
    simp only [x_q, x_o, x_b, x_k, x_x, x_r, x_it, x_if, x_p, p_nil, p_on, p_off, p_mv, p_pk, p_bn, p_un, p_be, p_nl, p_eqa, p_ci, p_cbs, p_csb, p_ex, p_bd, p_fd, p_ix, p_ixa, p_ss, p_sl, p_sla, p_ln, p_lns, p_lnm, p_al, p_bx, p_lal, p_lbx, p_ld, p_st, p_fa, p_ia, p_iaa, p_bs, p_lbs, p_mk, p_ap, p_cp, p_cl, p_cv, p_mf, p_nc, p_mm, p_mkm, p_lk, p_mu, p_dl, p_rs, p_nx, cfC, lgPut, isOk, rv, rh, Bool.false_eq_true, d_nil, d_on, d_off, d_mv, d_pk, d_bn, d_un, d_be, d_nl, d_eqa, d_ci, d_cbs, d_csb, d_ex, d_bd, d_fd, d_ix, d_ixa, d_ss, d_sl, d_sla, d_ln, d_lns, d_lnm, d_al, d_bx, d_lal, d_lbx, d_ld, d_st, d_fa, d_ia, d_iaa, d_bs, d_lbs, d_mk, d_ap, d_cp, d_cl, d_cv, d_mf, d_nc, d_mm, d_mkm, d_lk, d_mu, d_dl, d_rs, d_nx, okO, vlO, mmO, dsO, putE, args, evT, evs, evO, look, kOps, kSeq, kBlk, keepE, reduceIte, Nat.reduceEqDiff, binC, binV, intC, intV, strC, strV, unC, unV, AV.isI, AV.isB, AV.isS, AV.toI, AV.toK, AV.toS, allOut, o_b, o_i, o_s, o_np, o_pv, o_pe, o_ns, o_sl, o_nm, o_mp, o_nf, o_fn, o_ag, q_b, q_i, q_s, q_np, q_pv, q_pe, q_ns, q_sl, q_nm, q_mp, q_nf, q_fn, q_ag, Bool.and_true, Bool.and_self, Bool.true_and, AV.b.injEq, decide_eq_true_eq, decide_eq_false_iff_not, true_and, and_true, and_self, reduceCtorEq, imp_self, implies_true, forall_const, eq_self, ex_tp, ex_ag, List.getD_cons_zero, List.getD_cons_succ, List.length_cons, List.length_nil, Nat.reduceAdd, Nat.reduceLT, Nat.zero_add, bne_self_eq_false, decide_true, decide_false, eq_self, true_implies, false_implies, forall_const, Bool.true_eq_false, Bool.not_true, Bool.not_false, not_true_eq_false, not_false_eq_true, if_true, if_false, pickV, cond_true, cond_false, boolV, fillEC, fillE, List.replicate, List.set, Mem.newL, Mem.keep, Int.reduceToNat, Nat.reduceSub, List.drop_zero, Int.reduceLE, Int.le_refl, Nat.sub_zero, Mem.newL, Mem.newL, Mem.getL, Mem.hasL, lookL, setL, dropL, keepL, memN, la_faC, la_faV, la_ldC, la_ldX, la_stC, la_stM, partOf, partFits, setEl, setPart, Option.isSome_some, Option.getD_some, List.take_succ_cons, List.take_zero, List.drop_succ_cons, List.drop_zero, List.nil_append, List.cons_append, List.getD_cons_zero, List.getD_cons_succ, List.length_cons, List.length_nil, List.set_cons_zero, List.append_nil, List.drop_nil, List.take_nil, Nat.reduceAdd, Nat.reduceLT, Nat.reduceLeDiff, Nat.zero_add, Nat.add_zero, Nat.lt_add_one, Nat.le_refl, Nat.zero_le, Nat.zero_lt_succ, fillP, fillC, Nat.reduceLeDiff, lgAt, isRd, i1, endK, rsC, rsV, resV]
    exact ⟨.refl _, .inr ⟨fun hk => c1 hk.1, rfl⟩⟩
  rw [decide_eq_true c1] at i1
  by_cases c2 : 0 ≤ flags ∧ flags ≤ 65535
  case neg =>
    rw [decide_eq_false c2] at i2
    simp only [x_q, x_o, x_b, x_k, x_x, x_r, x_it, x_if, x_p, p_nil, p_on, p_off, p_mv, p_pk, p_bn, p_un, p_be, p_nl, p_eqa, p_ci, p_cbs, p_csb, p_ex, p_bd, p_fd, p_ix, p_ixa, p_ss, p_sl, p_sla, p_ln, p_lns, p_lnm, p_al, p_bx, p_lal, p_lbx, p_ld, p_st, p_fa, p_ia, p_iaa, p_bs, p_lbs, p_mk, p_ap, p_cp, p_cl, p_cv, p_mf, p_nc, p_mm, p_mkm, p_lk, p_mu, p_dl, p_rs, p_nx, cfC, lgPut, isOk, rv, rh, Bool.false_eq_true, d_nil, d_on, d_off, d_mv, d_pk, d_bn, d_un, d_be, d_nl, d_eqa, d_ci, d_cbs, d_csb, d_ex, d_bd, d_fd, d_ix, d_ixa, d_ss, d_sl, d_sla, d_ln, d_lns, d_lnm, d_al, d_bx, d_lal, d_lbx, d_ld, d_st, d_fa, d_ia, d_iaa, d_bs, d_lbs, d_mk, d_ap, d_cp, d_cl, d_cv, d_mf, d_nc, d_mm, d_mkm, d_lk, d_mu, d_dl, d_rs, d_nx, okO, vlO, mmO, dsO, putE, args, evT, evs, evO, look, kOps, kSeq, kBlk, keepE, reduceIte, Nat.reduceEqDiff, binC, binV, intC, intV, strC, strV, unC, unV, AV.isI, AV.isB, AV.isS, AV.toI, AV.toK, AV.toS, allOut, o_b, o_i, o_s, o_np, o_pv, o_pe, o_ns, o_sl, o_nm, o_mp, o_nf, o_fn, o_ag, q_b, q_i, q_s, q_np, q_pv, q_pe, q_ns, q_sl, q_nm, q_mp, q_nf, q_fn, q_ag, Bool.and_true, Bool.and_self, Bool.true_and, AV.b.injEq, decide_eq_true_eq, decide_eq_false_iff_not, true_and, and_true, and_self, reduceCtorEq, imp_self, implies_true, forall_const, eq_self, ex_tp, ex_ag, List.getD_cons_zero, List.getD_cons_succ, List.length_cons, List.length_nil, Nat.reduceAdd, Nat.reduceLT, Nat.zero_add, bne_self_eq_false, decide_true, decide_false, eq_self, true_implies, false_implies, forall_const, Bool.true_eq_false, Bool.not_true, Bool.not_false, not_true_eq_false, not_false_eq_true, if_true, if_false, pickV, cond_true, cond_false, boolV, fillEC, fillE, List.replicate, List.set, Mem.newL, Mem.keep, Int.reduceToNat, Nat.reduceSub, List.drop_zero, Int.reduceLE, Int.le_refl, Nat.sub_zero, Mem.newL, Mem.newL, Mem.getL, Mem.hasL, lookL, setL, dropL, keepL, memN, la_faC, la_faV, la_ldC, la_ldX, la_stC, la_stM, partOf, partFits, setEl, setPart, Option.isSome_some, Option.getD_some, List.take_succ_cons, List.take_zero, List.drop_succ_cons, List.drop_zero, List.nil_append, List.cons_append, List.getD_cons_zero, List.getD_cons_succ, List.length_cons, List.length_nil, List.set_cons_zero, List.append_nil, List.drop_nil, List.take_nil, Nat.reduceAdd, Nat.reduceLT, Nat.reduceLeDiff, Nat.zero_add, Nat.add_zero, Nat.lt_add_one, Nat.le_refl, Nat.zero_le, Nat.zero_lt_succ, fillP, fillC, Nat.reduceLeDiff, lgAt, isRd, i1, i2, endK, rsC, rsV, resV]
    exact ⟨.refl _, .inr ⟨fun hk => c2 hk.2.1, rfl⟩⟩
  rw [decide_eq_true c2] at i2
  by_cases c3 : 0 ≤ code ∧ code ≤ 255
  case neg =>
    rw [decide_eq_false c3] at i3
    simp only [x_q, x_o, x_b, x_k, x_x, x_r, x_it, x_if, x_p, p_nil, p_on, p_off, p_mv, p_pk, p_bn, p_un, p_be, p_nl, p_eqa, p_ci, p_cbs, p_csb, p_ex, p_bd, p_fd, p_ix, p_ixa, p_ss, p_sl, p_sla, p_ln, p_lns, p_lnm, p_al, p_bx, p_lal, p_lbx, p_ld, p_st, p_fa, p_ia, p_iaa, p_bs, p_lbs, p_mk, p_ap, p_cp, p_cl, p_cv, p_mf, p_nc, p_mm, p_mkm, p_lk, p_mu, p_dl, p_rs, p_nx, cfC, lgPut, isOk, rv, rh, Bool.false_eq_true, d_nil, d_on, d_off, d_mv, d_pk, d_bn, d_un, d_be, d_nl, d_eqa, d_ci, d_cbs, d_csb, d_ex, d_bd, d_fd, d_ix, d_ixa, d_ss, d_sl, d_sla, d_ln, d_lns, d_lnm, d_al, d_bx, d_lal, d_lbx, d_ld, d_st, d_fa, d_ia, d_iaa, d_bs, d_lbs, d_mk, d_ap, d_cp, d_cl, d_cv, d_mf, d_nc, d_mm, d_mkm, d_lk, d_mu, d_dl, d_rs, d_nx, okO, vlO, mmO, dsO, putE, args, evT, evs, evO, look, kOps, kSeq, kBlk, keepE, reduceIte, Nat.reduceEqDiff, binC, binV, intC, intV, strC, strV, unC, unV, AV.isI, AV.isB, AV.isS, AV.toI, AV.toK, AV.toS, allOut, o_b, o_i, o_s, o_np, o_pv, o_pe, o_ns, o_sl, o_nm, o_mp, o_nf, o_fn, o_ag, q_b, q_i, q_s, q_np, q_pv, q_pe, q_ns, q_sl, q_nm, q_mp, q_nf, q_fn, q_ag, Bool.and_true, Bool.and_self, Bool.true_and, AV.b.injEq, decide_eq_true_eq, decide_eq_false_iff_not, true_and, and_true, and_self, reduceCtorEq, imp_self, implies_true, forall_const, eq_self, ex_tp, ex_ag, List.getD_cons_zero, List.getD_cons_succ, List.length_cons, List.length_nil, Nat.reduceAdd, Nat.reduceLT, Nat.zero_add, bne_self_eq_false, decide_true, decide_false, eq_self, true_implies, false_implies, forall_const, Bool.true_eq_false, Bool.not_true, Bool.not_false, not_true_eq_false, not_false_eq_true, if_true, if_false, pickV, cond_true, cond_false, boolV, fillEC, fillE, List.replicate, List.set, Mem.newL, Mem.keep, Int.reduceToNat, Nat.reduceSub, List.drop_zero, Int.reduceLE, Int.le_refl, Nat.sub_zero, Mem.newL, Mem.newL, Mem.getL, Mem.hasL, lookL, setL, dropL, keepL, memN, la_faC, la_faV, la_ldC, la_ldX, la_stC, la_stM, partOf, partFits, setEl, setPart, Option.isSome_some, Option.getD_some, List.take_succ_cons, List.take_zero, List.drop_succ_cons, List.drop_zero, List.nil_append, List.cons_append, List.getD_cons_zero, List.getD_cons_succ, List.length_cons, List.length_nil, List.set_cons_zero, List.append_nil, List.drop_nil, List.take_nil, Nat.reduceAdd, Nat.reduceLT, Nat.reduceLeDiff, Nat.zero_add, Nat.add_zero, Nat.lt_add_one, Nat.le_refl, Nat.zero_le, Nat.zero_lt_succ, fillP, fillC, Nat.reduceLeDiff, lgAt, isRd, i1, i2, i3, endK, rsC, rsV, resV]
    exact ⟨.refl _, .inr ⟨fun hk => c3 hk.2.2.1, rfl⟩⟩
  rw [decide_eq_true c3] at i3
  simp only [x_q, x_o, x_b, x_k, x_x, x_r, x_it, x_if, x_p, p_nil, p_on, p_off, p_mv, p_pk, p_bn, p_un, p_be, p_nl, p_eqa, p_ci, p_cbs, p_csb, p_ex, p_bd, p_fd, p_ix, p_ixa, p_ss, p_sl, p_sla, p_ln, p_lns, p_lnm, p_al, p_bx, p_lal, p_lbx, p_ld, p_st, p_fa, p_ia, p_iaa, p_bs, p_lbs, p_mk, p_ap, p_cp, p_cl, p_cv, p_mf, p_nc, p_mm, p_mkm, p_lk, p_mu, p_dl, p_rs, p_nx, cfC, lgPut, isOk, rv, rh, Bool.false_eq_true, d_nil, d_on, d_off, d_mv, d_pk, d_bn, d_un, d_be, d_nl, d_eqa, d_ci, d_cbs, d_csb, d_ex, d_bd, d_fd, d_ix, d_ixa, d_ss, d_sl, d_sla, d_ln, d_lns, d_lnm, d_al, d_bx, d_lal, d_lbx, d_ld, d_st, d_fa, d_ia, d_iaa, d_bs, d_lbs, d_mk, d_ap, d_cp, d_cl, d_cv, d_mf, d_nc, d_mm, d_mkm, d_lk, d_mu, d_dl, d_rs, d_nx, okO, vlO, mmO, dsO, putE, args, evT, evs, evO, look, kOps, kSeq, kBlk, keepE, reduceIte, Nat.reduceEqDiff, binC, binV, intC, intV, strC, strV, unC, unV, AV.isI, AV.isB, AV.isS, AV.toI, AV.toK, AV.toS, allOut, o_b, o_i, o_s, o_np, o_pv, o_pe, o_ns, o_sl, o_nm, o_mp, o_nf, o_fn, o_ag, q_b, q_i, q_s, q_np, q_pv, q_pe, q_ns, q_sl, q_nm, q_mp, q_nf, q_fn, q_ag, Bool.and_true, Bool.and_self, Bool.true_and, AV.b.injEq, decide_eq_true_eq, decide_eq_false_iff_not, true_and, and_true, and_self, reduceCtorEq, imp_self, implies_true, forall_const, eq_self, ex_tp, ex_ag, List.getD_cons_zero, List.getD_cons_succ, List.length_cons, List.length_nil, Nat.reduceAdd, Nat.reduceLT, Nat.zero_add, bne_self_eq_false, decide_true, decide_false, eq_self, true_implies, false_implies, forall_const, Bool.true_eq_false, Bool.not_true, Bool.not_false, not_true_eq_false, not_false_eq_true, if_true, if_false, pickV, cond_true, cond_false, boolV, fillEC, fillE, List.replicate, List.set, Mem.newL, Mem.keep, Int.reduceToNat, Nat.reduceSub, List.drop_zero, Int.reduceLE, Int.le_refl, Nat.sub_zero, Mem.newL, Mem.newL, Mem.getL, Mem.hasL, lookL, setL, dropL, keepL, memN, la_faC, la_faV, la_ldC, la_ldX, la_stC, la_stM, partOf, partFits, setEl, setPart, Option.isSome_some, Option.getD_some, List.take_succ_cons, List.take_zero, List.drop_succ_cons, List.drop_zero, List.nil_append, List.cons_append, List.getD_cons_zero, List.getD_cons_succ, List.length_cons, List.length_nil, List.set_cons_zero, List.append_nil, List.drop_nil, List.take_nil, Nat.reduceAdd, Nat.reduceLT, Nat.reduceLeDiff, Nat.zero_add, Nat.add_zero, Nat.lt_add_one, Nat.le_refl, Nat.zero_le, Nat.zero_lt_succ, fillP, fillC, Nat.reduceLeDiff, lgAt, isRd, i1, i2, i3, h1, h2]
  refine exec_loop (fun n e M => ∃ (i : Nat) (H' : AH) (L : List Lv) (g : Nat), i ≤ os.length ∧ n = os.length - i ∧ look e 0 = .i .i64 size ∧ look e 1 = .i .i64 code ∧ look e 2 = .i .i64 flags ∧ look e 27 = a ∧ look e 28 = .i .i64 os.length ∧ look e 8 = .la 8 0 0 0 ∧ look e 10 = .s (datO (os.take i)) ∧ look e 29 = .i .i64 i ∧
    M = ⟨L, g, H'⟩ ∧ keepL [0, 1, 2, 8, 10, 27, 28, 29] L = [⟨8, 0, 0, [.ag [.s [], .i .i64 0, .i .i64 0, .i .i64 0, .s []]]⟩] ∧ Ext H H' ∧ (datO (os.take i)).length ≤ 65535 ∧ ∀ x, x ∈ os.take i → optOk x) ?_ (n := os.length)
    ⟨0, _, _, _, by omega, by omega, rfl, rfl, rfl, rfl, rfl, rfl, rfl, rfl, rfl, rfl, .refl _, by simp [datO], by simp⟩
  rintro n e M ⟨i, H', L, g, hi, rfl, q0, q1, q2, q27, q28, q8, q10, q29, rfl, hL, he, hdl, hok⟩
  by_cases hlt : (i : Int) < os.length
  · have hil : i < os.length := by omega
    obtain ⟨b1, b2, b3, b4⟩ := Sx.at' (Sl.ext h he) hil
    simp only [show eO.z = 2 from rfl, show eO.v os[i] = AV.ag [.i .i64 (os[i]).1, .s (os[i]).2] from rfl] at b1 b3 b4
    have hmem : os[i] ∈ os := List.getElem_mem hil
    have hcall := hI (os[i]).1 0 65535 H'
    have hw : (os[i]).2.length ≤ 1048576 := by have := tot_mem' (w := wO) hmem; simp only [wO] at this; omega
    have hpre : ∀ x, x ∈ os.take (i + 1) → x ∈ os.take i ∨ x = os[i] := fun x hx => by
      rw [← List.take_append_getElem hil] at hx
      exact (List.mem_append.1 hx).imp id fun h => by simpa using h
    by_cases d1 : 0 ≤ (os[i]).1 ∧ (os[i]).1 ≤ 65535
    case neg =>
      rw [decide_eq_false d1] at hcall
      simp only [x_q, x_o, x_b, x_k, x_x, x_r, x_it, x_if, x_p, p_nil, p_on, p_off, p_mv, p_pk, p_bn, p_un, p_be, p_nl, p_eqa, p_ci, p_cbs, p_csb, p_ex, p_bd, p_fd, p_ix, p_ixa, p_ss, p_sl, p_sla, p_ln, p_lns, p_lnm, p_al, p_bx, p_lal, p_lbx, p_ld, p_st, p_fa, p_ia, p_iaa, p_bs, p_lbs, p_mk, p_ap, p_cp, p_cl, p_cv, p_mf, p_nc, p_mm, p_mkm, p_lk, p_mu, p_dl, p_rs, p_nx, cfC, lgPut, isOk, rv, rh, Bool.false_eq_true, d_nil, d_on, d_off, d_mv, d_pk, d_bn, d_un, d_be, d_nl, d_eqa, d_ci, d_cbs, d_csb, d_ex, d_bd, d_fd, d_ix, d_ixa, d_ss, d_sl, d_sla, d_ln, d_lns, d_lnm, d_al, d_bx, d_lal, d_lbx, d_ld, d_st, d_fa, d_ia, d_iaa, d_bs, d_lbs, d_mk, d_ap, d_cp, d_cl, d_cv, d_mf, d_nc, d_mm, d_mkm, d_lk, d_mu, d_dl, d_rs, d_nx, okO, vlO, mmO, dsO, putE, args, evT, evs, evO, look, kOps, kSeq, kBlk, keepE, reduceIte, Nat.reduceEqDiff, binC, binV, intC, intV, strC, strV, unC, unV, AV.isI, AV.isB, AV.isS, AV.toI, AV.toK, AV.toS, allOut, o_b, o_i, o_s, o_np, o_pv, o_pe, o_ns, o_sl, o_nm, o_mp, o_nf, o_fn, o_ag, q_b, q_i, q_s, q_np, q_pv, q_pe, q_ns, q_sl, q_nm, q_mp, q_nf, q_fn, q_ag, Bool.and_true, Bool.and_self, Bool.true_and, AV.b.injEq, decide_eq_true_eq, decide_eq_false_iff_not, true_and, and_true, and_self, reduceCtorEq, imp_self, implies_true, forall_const, eq_self, ex_tp, ex_ag, List.getD_cons_zero, List.getD_cons_succ, List.length_cons, List.length_nil, Nat.reduceAdd, Nat.reduceLT, Nat.zero_add, bne_self_eq_false, decide_true, decide_false, eq_self, true_implies, false_implies, forall_const, Bool.true_eq_false, Bool.not_true, Bool.not_false, not_true_eq_false, not_false_eq_true, if_true, if_false, pickV, cond_true, cond_false, boolV, fillEC, fillE, List.replicate, List.set, Mem.newL, Mem.keep, Int.reduceToNat, Nat.reduceSub, List.drop_zero, Int.reduceLE, Int.le_refl, Nat.sub_zero, Mem.newL, Mem.newL, Mem.getL, Mem.hasL, lookL, setL, dropL, keepL, memN, la_faC, la_faV, la_ldC, la_ldX, la_stC, la_stM, partOf, partFits, setEl, setPart, Option.isSome_some, Option.getD_some, List.take_succ_cons, List.take_zero, List.drop_succ_cons, List.drop_zero, List.nil_append, List.cons_append, List.getD_cons_zero, List.getD_cons_succ, List.length_cons, List.length_nil, List.set_cons_zero, List.append_nil, List.drop_nil, List.take_nil, Nat.reduceAdd, Nat.reduceLT, Nat.reduceLeDiff, Nat.zero_add, Nat.add_zero, Nat.lt_add_one, Nat.le_refl, Nat.zero_le, Nat.zero_lt_succ, fillP, fillC, Nat.reduceLeDiff, lgAt, isRd, q0, q1, q2, q27, q28, q8, q10, q29, h1, h2, hlt, hL, b1, b2, b3, b4, toNat_nat, hcall, endK, rsC, rsV, resV]
      exact ⟨he, .inr ⟨fun hk => d1 ⟨(hk.2.2.2.1 _ hmem).1, (hk.2.2.2.1 _ hmem).2.1⟩, rfl⟩⟩
    rw [decide_eq_true d1] at hcall
    by_cases d2 : (65535 : Int) < (os[i]).2.length
    · simp only [x_q, x_o, x_b, x_k, x_x, x_r, x_it, x_if, x_p, p_nil, p_on, p_off, p_mv, p_pk, p_bn, p_un, p_be, p_nl, p_eqa, p_ci, p_cbs, p_csb, p_ex, p_bd, p_fd, p_ix, p_ixa, p_ss, p_sl, p_sla, p_ln, p_lns, p_lnm, p_al, p_bx, p_lal, p_lbx, p_ld, p_st, p_fa, p_ia, p_iaa, p_bs, p_lbs, p_mk, p_ap, p_cp, p_cl, p_cv, p_mf, p_nc, p_mm, p_mkm, p_lk, p_mu, p_dl, p_rs, p_nx, cfC, lgPut, isOk, rv, rh, Bool.false_eq_true, d_nil, d_on, d_off, d_mv, d_pk, d_bn, d_un, d_be, d_nl, d_eqa, d_ci, d_cbs, d_csb, d_ex, d_bd, d_fd, d_ix, d_ixa, d_ss, d_sl, d_sla, d_ln, d_lns, d_lnm, d_al, d_bx, d_lal, d_lbx, d_ld, d_st, d_fa, d_ia, d_iaa, d_bs, d_lbs, d_mk, d_ap, d_cp, d_cl, d_cv, d_mf, d_nc, d_mm, d_mkm, d_lk, d_mu, d_dl, d_rs, d_nx, okO, vlO, mmO, dsO, putE, args, evT, evs, evO, look, kOps, kSeq, kBlk, keepE, reduceIte, Nat.reduceEqDiff, binC, binV, intC, intV, strC, strV, unC, unV, AV.isI, AV.isB, AV.isS, AV.toI, AV.toK, AV.toS, allOut, o_b, o_i, o_s, o_np, o_pv, o_pe, o_ns, o_sl, o_nm, o_mp, o_nf, o_fn, o_ag, q_b, q_i, q_s, q_np, q_pv, q_pe, q_ns, q_sl, q_nm, q_mp, q_nf, q_fn, q_ag, Bool.and_true, Bool.and_self, Bool.true_and, AV.b.injEq, decide_eq_true_eq, decide_eq_false_iff_not, true_and, and_true, and_self, reduceCtorEq, imp_self, implies_true, forall_const, eq_self, ex_tp, ex_ag, List.getD_cons_zero, List.getD_cons_succ, List.length_cons, List.length_nil, Nat.reduceAdd, Nat.reduceLT, Nat.zero_add, bne_self_eq_false, decide_true, decide_false, eq_self, true_implies, false_implies, forall_const, Bool.true_eq_false, Bool.not_true, Bool.not_false, not_true_eq_false, not_false_eq_true, if_true, if_false, pickV, cond_true, cond_false, boolV, fillEC, fillE, List.replicate, List.set, Mem.newL, Mem.keep, Int.reduceToNat, Nat.reduceSub, List.drop_zero, Int.reduceLE, Int.le_refl, Nat.sub_zero, Mem.newL, Mem.newL, Mem.getL, Mem.hasL, lookL, setL, dropL, keepL, memN, la_faC, la_faV, la_ldC, la_ldX, la_stC, la_stM, partOf, partFits, setEl, setPart, Option.isSome_some, Option.getD_some, List.take_succ_cons, List.take_zero, List.drop_succ_cons, List.drop_zero, List.nil_append, List.cons_append, List.getD_cons_zero, List.getD_cons_succ, List.length_cons, List.length_nil, List.set_cons_zero, List.append_nil, List.drop_nil, List.take_nil, Nat.reduceAdd, Nat.reduceLT, Nat.reduceLeDiff, Nat.zero_add, Nat.add_zero, Nat.lt_add_one, Nat.le_refl, Nat.zero_le, Nat.zero_lt_succ, fillP, fillC, Nat.reduceLeDiff, lgAt, isRd, q0, q1, q2, q27, q28, q8, q10, q29, h1, h2, hlt, hL, b1, b2, b3, b4, toNat_nat, hcall, d2, endK, rsC, rsV, resV]
      exact ⟨he, .inr ⟨fun hk => by have := (hk.2.2.2.1 _ hmem).2.2; omega, rfl⟩⟩
    obtain ⟨H1, p1, p2⟩ := hP (os[i]).1.toNat H' (by omega)
    obtain ⟨H2, p3, p4⟩ := hP (os[i]).2.length H1 (by omega)
    rw [Int.toNat_of_nonneg d1.1] at p1
    have he2 := he.trans (p2.trans p4)
    have hok2 : ∀ x, x ∈ os.take (i + 1) → optOk x := fun x hx => (hpre x hx).elim (hok x) fun e => e ▸ ⟨d1.1, d1.2, by omega⟩
    have hsn : datO (os.take i) ++ (be16 (os[i]).1.toNat ++ be16 (os[i]).2.length ++ (os[i]).2) = datO (os.take (i + 1)) := by
      rw [← List.take_append_getElem hil, datO_snoc]; rfl
    have hwl : (datO (os.take (i + 1))).length ≤ 3000000 := by rw [← hsn]; simp [be16]; omega
    have hw1 : IntKind.i64.wrap ((i : Int) + 1) = ((i + 1 : Nat) : Int) := by rw [w64 (by omega) (by omega)]; rfl
    have hb : (be16 (os[i]).1.toNat).length + (be16 (os[i]).2.length).length ≤ 9223372036854775807 := by simp [be16]
    have hb2 : (be16 (os[i]).1.toNat ++ be16 (os[i]).2.length).length + (os[i]).2.length ≤ 9223372036854775807 := by simp [be16]; omega
    have hb3 : (datO (os.take i)).length + (be16 (os[i]).1.toNat ++ be16 (os[i]).2.length ++ (os[i]).2).length ≤ 9223372036854775807 := by simp [be16]; omega
    by_cases c4 : (65535 : Int) < (datO (os.take (i + 1))).length
    · simp only [x_q, x_o, x_b, x_k, x_x, x_r, x_it, x_if, x_p, p_nil, p_on, p_off, p_mv, p_pk, p_bn, p_un, p_be, p_nl, p_eqa, p_ci, p_cbs, p_csb, p_ex, p_bd, p_fd, p_ix, p_ixa, p_ss, p_sl, p_sla, p_ln, p_lns, p_lnm, p_al, p_bx, p_lal, p_lbx, p_ld, p_st, p_fa, p_ia, p_iaa, p_bs, p_lbs, p_mk, p_ap, p_cp, p_cl, p_cv, p_mf, p_nc, p_mm, p_mkm, p_lk, p_mu, p_dl, p_rs, p_nx, cfC, lgPut, isOk, rv, rh, Bool.false_eq_true, d_nil, d_on, d_off, d_mv, d_pk, d_bn, d_un, d_be, d_nl, d_eqa, d_ci, d_cbs, d_csb, d_ex, d_bd, d_fd, d_ix, d_ixa, d_ss, d_sl, d_sla, d_ln, d_lns, d_lnm, d_al, d_bx, d_lal, d_lbx, d_ld, d_st, d_fa, d_ia, d_iaa, d_bs, d_lbs, d_mk, d_ap, d_cp, d_cl, d_cv, d_mf, d_nc, d_mm, d_mkm, d_lk, d_mu, d_dl, d_rs, d_nx, okO, vlO, mmO, dsO, putE, args, evT, evs, evO, look, kOps, kSeq, kBlk, keepE, reduceIte, Nat.reduceEqDiff, binC, binV, intC, intV, strC, strV, unC, unV, AV.isI, AV.isB, AV.isS, AV.toI, AV.toK, AV.toS, allOut, o_b, o_i, o_s, o_np, o_pv, o_pe, o_ns, o_sl, o_nm, o_mp, o_nf, o_fn, o_ag, q_b, q_i, q_s, q_np, q_pv, q_pe, q_ns, q_sl, q_nm, q_mp, q_nf, q_fn, q_ag, Bool.and_true, Bool.and_self, Bool.true_and, AV.b.injEq, decide_eq_true_eq, decide_eq_false_iff_not, true_and, and_true, and_self, reduceCtorEq, imp_self, implies_true, forall_const, eq_self, ex_tp, ex_ag, List.getD_cons_zero, List.getD_cons_succ, List.length_cons, List.length_nil, Nat.reduceAdd, Nat.reduceLT, Nat.zero_add, bne_self_eq_false, decide_true, decide_false, eq_self, true_implies, false_implies, forall_const, Bool.true_eq_false, Bool.not_true, Bool.not_false, not_true_eq_false, not_false_eq_true, if_true, if_false, pickV, cond_true, cond_false, boolV, fillEC, fillE, List.replicate, List.set, Mem.newL, Mem.keep, Int.reduceToNat, Nat.reduceSub, List.drop_zero, Int.reduceLE, Int.le_refl, Nat.sub_zero, Mem.newL, Mem.newL, Mem.getL, Mem.hasL, lookL, setL, dropL, keepL, memN, la_faC, la_faV, la_ldC, la_ldX, la_stC, la_stM, partOf, partFits, setEl, setPart, Option.isSome_some, Option.getD_some, List.take_succ_cons, List.take_zero, List.drop_succ_cons, List.drop_zero, List.nil_append, List.cons_append, List.getD_cons_zero, List.getD_cons_succ, List.length_cons, List.length_nil, List.set_cons_zero, List.append_nil, List.drop_nil, List.take_nil, Nat.reduceAdd, Nat.reduceLT, Nat.reduceLeDiff, Nat.zero_add, Nat.add_zero, Nat.lt_add_one, Nat.le_refl, Nat.zero_le, Nat.zero_lt_succ, fillP, fillC, Nat.reduceLeDiff, lgAt, isRd, q0, q1, q2, q27, q28, q8, q10, q29, h1, h2, hlt, hL, b1, b2, b3, b4, toNat_nat, hcall, d2, p1, p3, hb, hb2, hb3, hsn, c4, endK, rsC, rsV, resV]
      exact ⟨he2, .inr ⟨fun hk => by have := hk.2.2.2.2; have := datO_pre (os := os) (i + 1); omega, rfl⟩⟩
    · simp only [x_q, x_o, x_b, x_k, x_x, x_r, x_it, x_if, x_p, p_nil, p_on, p_off, p_mv, p_pk, p_bn, p_un, p_be, p_nl, p_eqa, p_ci, p_cbs, p_csb, p_ex, p_bd, p_fd, p_ix, p_ixa, p_ss, p_sl, p_sla, p_ln, p_lns, p_lnm, p_al, p_bx, p_lal, p_lbx, p_ld, p_st, p_fa, p_ia, p_iaa, p_bs, p_lbs, p_mk, p_ap, p_cp, p_cl, p_cv, p_mf, p_nc, p_mm, p_mkm, p_lk, p_mu, p_dl, p_rs, p_nx, cfC, lgPut, isOk, rv, rh, Bool.false_eq_true, d_nil, d_on, d_off, d_mv, d_pk, d_bn, d_un, d_be, d_nl, d_eqa, d_ci, d_cbs, d_csb, d_ex, d_bd, d_fd, d_ix, d_ixa, d_ss, d_sl, d_sla, d_ln, d_lns, d_lnm, d_al, d_bx, d_lal, d_lbx, d_ld, d_st, d_fa, d_ia, d_iaa, d_bs, d_lbs, d_mk, d_ap, d_cp, d_cl, d_cv, d_mf, d_nc, d_mm, d_mkm, d_lk, d_mu, d_dl, d_rs, d_nx, okO, vlO, mmO, dsO, putE, args, evT, evs, evO, look, kOps, kSeq, kBlk, keepE, reduceIte, Nat.reduceEqDiff, binC, binV, intC, intV, strC, strV, unC, unV, AV.isI, AV.isB, AV.isS, AV.toI, AV.toK, AV.toS, allOut, o_b, o_i, o_s, o_np, o_pv, o_pe, o_ns, o_sl, o_nm, o_mp, o_nf, o_fn, o_ag, q_b, q_i, q_s, q_np, q_pv, q_pe, q_ns, q_sl, q_nm, q_mp, q_nf, q_fn, q_ag, Bool.and_true, Bool.and_self, Bool.true_and, AV.b.injEq, decide_eq_true_eq, decide_eq_false_iff_not, true_and, and_true, and_self, reduceCtorEq, imp_self, implies_true, forall_const, eq_self, ex_tp, ex_ag, List.getD_cons_zero, List.getD_cons_succ, List.length_cons, List.length_nil, Nat.reduceAdd, Nat.reduceLT, Nat.zero_add, bne_self_eq_false, decide_true, decide_false, eq_self, true_implies, false_implies, forall_const, Bool.true_eq_false, Bool.not_true, Bool.not_false, not_true_eq_false, not_false_eq_true, if_true, if_false, pickV, cond_true, cond_false, boolV, fillEC, fillE, List.replicate, List.set, Mem.newL, Mem.keep, Int.reduceToNat, Nat.reduceSub, List.drop_zero, Int.reduceLE, Int.le_refl, Nat.sub_zero, Mem.newL, Mem.newL, Mem.getL, Mem.hasL, lookL, setL, dropL, keepL, memN, la_faC, la_faV, la_ldC, la_ldX, la_stC, la_stM, partOf, partFits, setEl, setPart, Option.isSome_some, Option.getD_some, List.take_succ_cons, List.take_zero, List.drop_succ_cons, List.drop_zero, List.nil_append, List.cons_append, List.getD_cons_zero, List.getD_cons_succ, List.length_cons, List.length_nil, List.set_cons_zero, List.append_nil, List.drop_nil, List.take_nil, Nat.reduceAdd, Nat.reduceLT, Nat.reduceLeDiff, Nat.zero_add, Nat.add_zero, Nat.lt_add_one, Nat.le_refl, Nat.zero_le, Nat.zero_lt_succ, fillP, fillC, Nat.reduceLeDiff, lgAt, isRd, q0, q1, q2, q27, q28, q8, q10, q29, h1, h2, hlt, hL, b1, b2, b3, b4, toNat_nat, hcall, d2, p1, p3, hb, hb2, hb3, hsn, c4, hw1]
      refine ⟨os.length - (i + 1), by omega, i + 1, H2, _, _, by omega, rfl, rfl, rfl, rfl, rfl, he2, by omega, hok2⟩
  · have hil : i = os.length := by omega
    subst hil
    rw [List.take_length] at q10 hok hdl
    have v1 : (2 : Int) ^ (min 24 IntKind.i64.bits) = 16777216 := by decide
    have v2 : IntKind.i64.wrap (code * 16777216) = code * 16777216 := w64 (by omega) (by omega)
    have v3 : bitw .or .i64 (code * 16777216) flags = code * 16777216 + flags := by
      have := or_hi (x := code.toNat) (y := flags.toNat) (k := 24) (by omega) (by omega)
      rw [show ((code.toNat * 2 ^ 24 : Nat) : Int) = code * 16777216 by omega, show ((flags.toNat : Nat) : Int) = flags by omega] at this
      rw [this]; omega
    simp only [x_q, x_o, x_b, x_k, x_x, x_r, x_it, x_if, x_p, p_nil, p_on, p_off, p_mv, p_pk, p_bn, p_un, p_be, p_nl, p_eqa, p_ci, p_cbs, p_csb, p_ex, p_bd, p_fd, p_ix, p_ixa, p_ss, p_sl, p_sla, p_ln, p_lns, p_lnm, p_al, p_bx, p_lal, p_lbx, p_ld, p_st, p_fa, p_ia, p_iaa, p_bs, p_lbs, p_mk, p_ap, p_cp, p_cl, p_cv, p_mf, p_nc, p_mm, p_mkm, p_lk, p_mu, p_dl, p_rs, p_nx, cfC, lgPut, isOk, rv, rh, Bool.false_eq_true, d_nil, d_on, d_off, d_mv, d_pk, d_bn, d_un, d_be, d_nl, d_eqa, d_ci, d_cbs, d_csb, d_ex, d_bd, d_fd, d_ix, d_ixa, d_ss, d_sl, d_sla, d_ln, d_lns, d_lnm, d_al, d_bx, d_lal, d_lbx, d_ld, d_st, d_fa, d_ia, d_iaa, d_bs, d_lbs, d_mk, d_ap, d_cp, d_cl, d_cv, d_mf, d_nc, d_mm, d_mkm, d_lk, d_mu, d_dl, d_rs, d_nx, okO, vlO, mmO, dsO, putE, args, evT, evs, evO, look, kOps, kSeq, kBlk, keepE, reduceIte, Nat.reduceEqDiff, binC, binV, intC, intV, strC, strV, unC, unV, AV.isI, AV.isB, AV.isS, AV.toI, AV.toK, AV.toS, allOut, o_b, o_i, o_s, o_np, o_pv, o_pe, o_ns, o_sl, o_nm, o_mp, o_nf, o_fn, o_ag, q_b, q_i, q_s, q_np, q_pv, q_pe, q_ns, q_sl, q_nm, q_mp, q_nf, q_fn, q_ag, Bool.and_true, Bool.and_self, Bool.true_and, AV.b.injEq, decide_eq_true_eq, decide_eq_false_iff_not, true_and, and_true, and_self, reduceCtorEq, imp_self, implies_true, forall_const, eq_self, ex_tp, ex_ag, List.getD_cons_zero, List.getD_cons_succ, List.length_cons, List.length_nil, Nat.reduceAdd, Nat.reduceLT, Nat.zero_add, bne_self_eq_false, decide_true, decide_false, eq_self, true_implies, false_implies, forall_const, Bool.true_eq_false, Bool.not_true, Bool.not_false, not_true_eq_false, not_false_eq_true, if_true, if_false, pickV, cond_true, cond_false, boolV, fillEC, fillE, List.replicate, List.set, Mem.newL, Mem.keep, Int.reduceToNat, Nat.reduceSub, List.drop_zero, Int.reduceLE, Int.le_refl, Nat.sub_zero, Mem.newL, Mem.newL, Mem.getL, Mem.hasL, lookL, setL, dropL, keepL, memN, la_faC, la_faV, la_ldC, la_ldX, la_stC, la_stM, partOf, partFits, setEl, setPart, Option.isSome_some, Option.getD_some, List.take_succ_cons, List.take_zero, List.drop_succ_cons, List.drop_zero, List.nil_append, List.cons_append, List.getD_cons_zero, List.getD_cons_succ, List.length_cons, List.length_nil, List.set_cons_zero, List.append_nil, List.drop_nil, List.take_nil, Nat.reduceAdd, Nat.reduceLT, Nat.reduceLeDiff, Nat.zero_add, Nat.add_zero, Nat.lt_add_one, Nat.le_refl, Nat.zero_le, Nat.zero_lt_succ, fillP, fillC, Nat.reduceLeDiff, lgAt, isRd, q0, q1, q2, q27, q28, q8, q10, q29, h1, h2, hlt, hL, v1, v2, v3, endK, rsC, rsV, resV]
    exact ⟨he, .inl ⟨⟨c1, c2, c3, hok, by omega⟩, rfl⟩⟩
def T_edns (C : Tab) (f : Nat) : Prop := ∀ (a : AV) (os : List Opt) (size code flags : Int) (H : AH), Sx H eO a os → os.length + tot' wO os ≤ 1048576 → ∃ v H', C f [.i .i64 size, .i .i64 code, .i .i64 flags, a] H = some (v, H') ∧ EdPost size code flags os H v H'
def T_toS {α : Type} (C : Tab) (f : Nat) (E : Enc α) : Prop := ∀ (a : AV) (xs : List α) (H : AH), Sx H E a xs → xs.length ≤ 137438953472 → ∃ v H', C f [a] H = some (v, H') ∧ Ext H H' ∧ Mx H' E v xs ∧ ∀ i, i ∈ idA v → H.n ≤ i
def T_eqS {α : Type} (C : Tab) (f : Nat) (E : Enc α) : Prop := ∀ (a b : AV) (xs : List α) (H : AH), Sx H E a xs → Sx H E b xs → xs.length ≤ 1099511627776 → C f [a, b] H = some (.b true, H)
def T_szS {α : Type} (C : Tab) (f : Nat) (E : Enc α) (w : α → Nat) (pre : α → Prop) : Prop := ∀ (a : AV) (xs : List α) (left : Int) (H : AH), Sx H E a xs → 0 ≤ left → left ≤ 1099511627776 → xs.length ≤ 9223372036854775807 → (∀ o, o ∈ xs → pre o) → C f [a, .i .i64 left] H = some (.i .i64 (if left - xs.length - tot' w xs < 0 then -1 else left - xs.length - tot' w xs), H)
end
end Go.Vm

/- Functions' code as literals of the abstract machine, printed by wip/tools/lits.py; the kernel checks each against the translation. -/
namespace Go.Vm
set_option linter.unusedVariables false
set_option linter.unusedSimpArgs false
/-- loop.example/s01858/impl.ReadEdns -/
def c_impl_ReadEdns : Fn := ⟨1, [(.c 2 (some 5)), (.t 3)],
    .q (.o [.lbx 1 (.t 0),
      .lal 2 (.ag [(.b false), (.i .i64 0), (.i .i64 0), (.i .i64 0), .ns]),
      .mv 3 (.c (.i .i64 0))])
    (.q (.q (.o [.fa 13 (.t 1) 12,
      .ld 14 (.t 13) none,
      .fa 15 (.t 1) 13,
      .ld 16 (.t 15) none,
      .lbs 17 .ns 1 2 [(0, (.t 14)), (1, (.t 16))],
      .ln 18 (.t 17),
      .mv 19 (.c (.i .i64 0))])
    (.b 0 (.l [1, 2, 17, 18, 19] (.q (.o [.bn 20 .lss (.t 19) (.t 18)])
    (.q (.i (.t 20) (.k)
    (.x 0))
    (.q (.b 1 (.q (.o [.ia 21 (.t 17) (.t 19) 1,
      .ld 22 (.t 21) none,
      .mv 5 (.t 22)])
    (.q (.o [.mv 23 (.t 5),
      .ln 24 (.t 23),
      .mv 25 (.c (.i .i64 0))])
    (.b 2 (.l [1, 2, 17, 18, 19, 23, 24, 25] (.q (.o [.bn 26 .lss (.t 25) (.t 24)])
    (.q (.i (.t 26) (.k)
    (.x 2))
    (.q (.b 3 (.q (.o [.ia 27 (.t 23) (.t 25) 5,
      .ld 28 (.t 27) (some 5),
      .lal 7 (.ag [(.s []), (.i .i64 0), (.i .i64 0), (.i .i64 0), (.s [])]),
      .st (.t 7) (.t 28) 5])
    (.q (.o [.fa 29 (.t 7) 1,
      .ld 30 (.t 29) none,
      .bn 31 .eql (.t 30) (.c (.i .i64 41))])
    (.i (.t 31) (.q (.o [.bd 32 [(.b false), (.i .i64 0), (.i .i64 0), (.i .i64 0), .ns] [],
      .st (.t 2) (.t 32) 5,
      .mv 3 (.c (.i .i64 32))])
    (.r))
    (.k)))))
    (.o [.bn 33 .add (.t 25) (.c (.i .i64 1)),
      .mv 25 (.t 33)])))))))))
    (.o [.bn 34 .add (.t 19) (.c (.i .i64 1)),
      .mv 19 (.t 34)])))))))
    (.q (.o [.lal 8 (.ag [(.b false), (.i .i64 0), (.i .i64 0), (.i .i64 0), .ns])])
    (.q (.q (.o [.fa 35 (.t 1) 14,
      .ld 36 (.t 35) none,
      .ln 37 (.t 36),
      .mv 38 (.c (.i .i64 0))])
    (.b 4 (.l [2, 8, 36, 37, 38] (.q (.o [.bn 39 .lss (.t 38) (.t 37)])
    (.q (.i (.t 39) (.k)
    (.x 4))
    (.q (.b 5 (.q (.o [.ia 40 (.t 36) (.t 38) 5,
      .ld 41 (.t 40) (some 5),
      .lal 10 (.ag [(.s []), (.i .i64 0), (.i .i64 0), (.i .i64 0), (.s [])]),
      .st (.t 10) (.t 41) 5])
    (.q (.q (.o [.fa 42 (.t 10) 1,
      .ld 43 (.t 42) none,
      .bn 44 .neq (.t 43) (.c (.i .i64 41))])
    (.i (.t 44) (.x 5)
    (.k)))
    (.q (.q (.o [.fa 45 (.t 8) 0,
      .ld 46 (.t 45) none,
      .mv 47 (.t 46),
      .gd 47 false (.fa 48 (.t 10) 0),
      .gd 47 false (.ld 49 (.t 48) none),
      .gd 47 false (.bn 50 .neq (.t 49) (.c (.s [0]))),
      .pk 51 (.t 47) (.c (.b true)) (.t 50)])
    (.i (.t 51) (.q (.o [.bd 52 [(.b false), (.i .i64 0), (.i .i64 0), (.i .i64 0), .ns] [],
      .st (.t 2) (.t 52) 5,
      .mv 3 (.c (.i .i64 32))])
    (.r))
    (.k)))
    (.q (.o [.fa 53 (.t 10) 2,
      .ld 54 (.t 53) none,
      .fa 55 (.t 10) 3,
      .ld 56 (.t 55) none,
      .bn 57 .shr (.t 56) (.c (.i .u64 16)),
      .bn 58 .and (.t 57) (.c (.i .i64 255)),
      .fa 59 (.t 10) 3,
      .ld 60 (.t 59) none,
      .bn 61 .and (.t 60) (.c (.i .i64 65535)),
      .bd 62 [(.b false), (.i .i64 0), (.i .i64 0), (.i .i64 0), .ns] [(0, 1, (.c (.b true))), (1, 1, (.t 54)), (2, 1, (.t 58)), (3, 1, (.t 61))],
      .st (.t 8) (.t 62) 5])
    (.q (.o [.fa 63 (.t 10) 4,
      .ld 64 (.t 63) none,
      .mv 11 (.t 64)])
    (.b 6 (.l [2, 8, 11, 36, 37, 38] (.q (.q (.o [.mv 65 (.t 11),
      .bn 66 .neq (.t 65) (.c (.s []))])
    (.i (.t 66) (.k)
    (.x 6)))
    (.b 7 (.q (.q (.o [.mv 67 (.t 11),
      .lns 68 (.t 67),
      .bn 69 .lss (.t 68) (.c (.i .i64 4))])
    (.i (.t 69) (.q (.o [.bd 70 [(.b false), (.i .i64 0), (.i .i64 0), (.i .i64 0), .ns] [],
      .st (.t 2) (.t 70) 5,
      .mv 3 (.c (.i .i64 32))])
    (.r))
    (.k)))
    (.q (.o [.mv 71 (.t 11),
      .ss 72 (.t 71) (some (.c (.i .i64 2))) none,
      .cl (some 73) 34 [(.t 72)],
      .bn 74 .add (.c (.i .i64 4)) (.t 73),
      .mv 12 (.t 74)])
    (.q (.q (.o [.mv 75 (.t 12),
      .mv 76 (.t 11),
      .lns 77 (.t 76),
      .bn 78 .gtr (.t 75) (.t 77)])
    (.i (.t 78) (.q (.o [.bd 79 [(.b false), (.i .i64 0), (.i .i64 0), (.i .i64 0), .ns] [],
      .st (.t 2) (.t 79) 5,
      .mv 3 (.c (.i .i64 32))])
    (.r))
    (.k)))
    (.q (.p [⟨.fa 80 (.t 8) 4, [], false⟩,
      ⟨.ld 81 (.t 80) none, [], true⟩,
      ⟨.mv 82 (.t 11), [], false⟩,
      ⟨.cl (some 83) 34 [(.t 82)], [1], false⟩,
      ⟨.mv 84 (.t 11), [], false⟩,
      ⟨.mv 85 (.t 12), [], false⟩,
      ⟨.ss 86 (.t 84) (some (.c (.i .i64 4))) (some (.t 85)), [], false⟩,
      ⟨.bd 87 [(.i .i64 0), (.s [])] [(0, 1, (.t 83)), (1, 1, (.t 86))], [], false⟩,
      ⟨.lbs 88 (.ag [(.i .i64 0), (.s [])]) 2 1 [(0, (.t 87))], [1], false⟩,
      ⟨.ap 89 (.t 81) (.t 88) 2 24, [], false⟩,
      ⟨.fa 90 (.t 8) 4, [], false⟩,
      ⟨.st (.t 90) (.t 89) 1, [], false⟩])
    (.o [.mv 91 (.t 11),
      .mv 92 (.t 12),
      .ss 93 (.t 91) (some (.t 92)) none,
      .mv 11 (.t 93)])))))))))))))))
    (.o [.bn 94 .add (.t 38) (.c (.i .i64 1)),
      .mv 38 (.t 94)])))))))
    (.q (.o [.ld 95 (.t 8) (some 5),
      .st (.t 2) (.t 95) 5,
      .mv 3 (.c (.i .i64 0))])
    (.r)))))⟩
abbrev n_impl_ReadEdns : Nat := 11
theorem k_impl_ReadEdns : chkF Go.Proofs.Tryd.prog c_impl_ReadEdns 11 = true := by kernel_rfl
/-- loop.example/s01858/laws.szMessage -/
def c_laws_szMessage : Fn := ⟨2, [(.t 4)],
    .q (.o [.lbx 2 (.t 0),
      .mv 4 (.c (.i .i64 0))])
    (.q (.o [.fa 5 (.t 2) 11,
      .ld 6 (.t 5) none,
      .mv 7 (.t 1),
      .cl (some 8) 37 [(.t 6), (.t 7)],
      .mv 1 (.t 8)])
    (.q (.q (.o [.mv 9 (.t 1),
      .bn 10 .lss (.t 9) (.c (.i .i64 0))])
    (.i (.t 10) (.q (.o [.mv 4 (.c (.i .i64 (-1)))])
    (.r))
    (.k)))
    (.q (.o [.fa 11 (.t 2) 12,
      .ld 12 (.t 11) none,
      .mv 13 (.t 1),
      .cl (some 14) 38 [(.t 12), (.t 13)],
      .mv 1 (.t 14)])
    (.q (.q (.o [.mv 15 (.t 1),
      .bn 16 .lss (.t 15) (.c (.i .i64 0))])
    (.i (.t 16) (.q (.o [.mv 4 (.c (.i .i64 (-1)))])
    (.r))
    (.k)))
    (.q (.o [.fa 17 (.t 2) 13,
      .ld 18 (.t 17) none,
      .mv 19 (.t 1),
      .cl (some 20) 38 [(.t 18), (.t 19)],
      .mv 1 (.t 20)])
    (.q (.q (.o [.mv 21 (.t 1),
      .bn 22 .lss (.t 21) (.c (.i .i64 0))])
    (.i (.t 22) (.q (.o [.mv 4 (.c (.i .i64 (-1)))])
    (.r))
    (.k)))
    (.q (.o [.fa 23 (.t 2) 14,
      .ld 24 (.t 23) none,
      .mv 25 (.t 1),
      .cl (some 26) 38 [(.t 24), (.t 25)],
      .mv 1 (.t 26)])
    (.q (.q (.o [.mv 27 (.t 1),
      .bn 28 .lss (.t 27) (.c (.i .i64 0))])
    (.i (.t 28) (.q (.o [.mv 4 (.c (.i .i64 (-1)))])
    (.r))
    (.k)))
    (.q (.o [.mv 29 (.t 1),
      .mv 4 (.t 29)])
    (.r))))))))))⟩
abbrev n_laws_szMessage : Nat := 12
theorem k_laws_szMessage : chkF Go.Proofs.Tryd.prog c_laws_szMessage 12 = true := by kernel_rfl
/-- loop.example/s01858/laws.toMessage -/
def c_laws_toMessage : Fn := ⟨1, [(.c 2 (some 15))],
    .q (.o [.lbx 1 (.t 0),
      .lal 2 (.ag [(.i .i64 0), (.b false), (.i .i64 0), (.b false), (.b false), (.b false), (.b false), (.b false), (.b false), (.b false), (.i .i64 0), .ns, .ns, .ns, .ns])])
    (.q (.o [.lal 3 (.ag [(.i .i64 0), (.b false), (.i .i64 0), (.b false), (.b false), (.b false), (.b false), (.b false), (.b false), (.b false), (.i .i64 0), .ns, .ns, .ns, .ns])])
    (.q (.o [.fa 4 (.t 1) 0,
      .ld 5 (.t 4) (some 11),
      .cl (some 6) 42 [(.t 5)],
      .fa 7 (.t 3) 0,
      .st (.t 7) (.t 6) 11])
    (.q (.o [.fa 8 (.t 1) 11,
      .ld 9 (.t 8) none,
      .cl (some 10) 43 [(.t 9)],
      .fa 11 (.t 3) 11,
      .st (.t 11) (.t 10) 1])
    (.q (.o [.fa 12 (.t 1) 12,
      .ld 13 (.t 12) none,
      .cl (some 14) 44 [(.t 13)],
      .fa 15 (.t 3) 12,
      .st (.t 15) (.t 14) 1])
    (.q (.o [.fa 16 (.t 1) 13,
      .ld 17 (.t 16) none,
      .cl (some 18) 44 [(.t 17)],
      .fa 19 (.t 3) 13,
      .st (.t 19) (.t 18) 1])
    (.q (.o [.fa 20 (.t 1) 14,
      .ld 21 (.t 20) none,
      .cl (some 22) 44 [(.t 21)],
      .fa 23 (.t 3) 14,
      .st (.t 23) (.t 22) 1])
    (.q (.o [.ld 24 (.t 3) (some 15),
      .st (.t 2) (.t 24) 15])
    (.r))))))))⟩
abbrev n_laws_toMessage : Nat := 14
theorem k_laws_toMessage : chkF Go.Proofs.Tryd.prog c_laws_toMessage 14 = true := by kernel_rfl
/-- loop.example/s01858/laws.eqMessage -/
def c_laws_eqMessage : Fn := ⟨2, [(.t 4)],
    .q (.o [.lbx 2 (.t 0),
      .lbx 3 (.t 1),
      .mv 4 (.c (.b false))])
    (.q (.q (.o [.fa 5 (.t 2) 0,
      .ld 6 (.t 5) (some 11),
      .fa 7 (.t 3) 0,
      .ld 8 (.t 7) (some 11),
      .cl (some 9) 47 [(.t 6), (.t 8)],
      .un 10 .not (.t 9)])
    (.i (.t 10) (.q (.o [.mv 4 (.c (.b false))])
    (.r))
    (.k)))
    (.q (.q (.o [.fa 11 (.t 2) 11,
      .ld 12 (.t 11) none,
      .fa 13 (.t 3) 11,
      .ld 14 (.t 13) none,
      .cl (some 15) 48 [(.t 12), (.t 14)],
      .un 16 .not (.t 15)])
    (.i (.t 16) (.q (.o [.mv 4 (.c (.b false))])
    (.r))
    (.k)))
    (.q (.q (.o [.fa 17 (.t 2) 12,
      .ld 18 (.t 17) none,
      .fa 19 (.t 3) 12,
      .ld 20 (.t 19) none,
      .cl (some 21) 49 [(.t 18), (.t 20)],
      .un 22 .not (.t 21)])
    (.i (.t 22) (.q (.o [.mv 4 (.c (.b false))])
    (.r))
    (.k)))
    (.q (.q (.o [.fa 23 (.t 2) 13,
      .ld 24 (.t 23) none,
      .fa 25 (.t 3) 13,
      .ld 26 (.t 25) none,
      .cl (some 27) 49 [(.t 24), (.t 26)],
      .un 28 .not (.t 27)])
    (.i (.t 28) (.q (.o [.mv 4 (.c (.b false))])
    (.r))
    (.k)))
    (.q (.q (.o [.fa 29 (.t 2) 14,
      .ld 30 (.t 29) none,
      .fa 31 (.t 3) 14,
      .ld 32 (.t 31) none,
      .cl (some 33) 49 [(.t 30), (.t 32)],
      .un 34 .not (.t 33)])
    (.i (.t 34) (.q (.o [.mv 4 (.c (.b false))])
    (.r))
    (.k)))
    (.q (.o [.mv 4 (.c (.b true))])
    (.r)))))))⟩
abbrev n_laws_eqMessage : Nat := 16
theorem k_laws_eqMessage : chkF Go.Proofs.Tryd.prog c_laws_eqMessage 16 = true := by kernel_rfl
/-- loop.example/s01858/laws.markMessage -/
def c_laws_markMessage : Fn := ⟨2, [(.t 4)],
    .q (.o [.lbx 2 (.t 0),
      .mv 4 (.c (.i .i64 0))])
    (.q (.o [.fa 5 (.t 2) 11,
      .ld 6 (.t 5) none,
      .mv 7 (.t 1),
      .cl (some 8) 50 [(.t 6), (.t 7)],
      .mv 1 (.t 8)])
    (.q (.o [.fa 9 (.t 2) 12,
      .ld 10 (.t 9) none,
      .mv 11 (.t 1),
      .cl (some 12) 51 [(.t 10), (.t 11)],
      .mv 1 (.t 12)])
    (.q (.o [.fa 13 (.t 2) 13,
      .ld 14 (.t 13) none,
      .mv 15 (.t 1),
      .cl (some 16) 51 [(.t 14), (.t 15)],
      .mv 1 (.t 16)])
    (.q (.o [.fa 17 (.t 2) 14,
      .ld 18 (.t 17) none,
      .mv 19 (.t 1),
      .cl (some 20) 51 [(.t 18), (.t 19)],
      .mv 1 (.t 20)])
    (.q (.o [.mv 21 (.t 1),
      .mv 4 (.t 21)])
    (.r))))))⟩
abbrev n_laws_markMessage : Nat := 17
theorem k_laws_markMessage : chkF Go.Proofs.Tryd.prog c_laws_markMessage 17 = true := by kernel_rfl
/-- loop.example/s01858/impl.u16 -/
def c_impl_u16 : Fn := ⟨1, [(.t 2)],
    .q (.o [.mv 2 (.c (.i .i64 0))])
    (.q (.p [⟨.mv 3 (.t 0), [], false⟩,
      ⟨.ix 4 (.t 3) (.c (.i .i64 0)), [], false⟩,
      ⟨.ci 5 .i64 (.t 4), [], false⟩,
      ⟨.bn 6 .shl (.t 5) (.c (.i .u64 8)), [], false⟩,
      ⟨.mv 7 (.t 0), [], false⟩,
      ⟨.ix 8 (.t 7) (.c (.i .i64 1)), [], false⟩,
      ⟨.ci 9 .i64 (.t 8), [], false⟩,
      ⟨.bn 10 .or (.t 6) (.t 9), [], false⟩,
      ⟨.mv 2 (.t 10), [], false⟩])
    (.r))⟩
abbrev n_impl_u16 : Nat := 34
theorem k_impl_u16 : chkF Go.Proofs.Tryd.prog c_impl_u16 34 = true := by kernel_rfl
/-- loop.example/s01858/laws.szQuestionS -/
def c_laws_szQuestionS : Fn := ⟨2, [(.t 4)],
    .q (.o [.mv 4 (.c (.i .i64 0))])
    (.q (.o [.mv 6 (.t 1),
      .mv 7 (.t 0),
      .ln 8 (.t 7),
      .bn 9 .sub (.t 6) (.t 8),
      .mv 1 (.t 9)])
    (.q (.q (.o [.mv 10 (.t 1),
      .bn 11 .lss (.t 10) (.c (.i .i64 0))])
    (.i (.t 11) (.q (.o [.mv 4 (.c (.i .i64 (-1)))])
    (.r))
    (.k)))
    (.q (.q (.o [.mv 5 (.c (.i .i64 0))])
    (.b 0 (.l [0, 1, 5] (.q (.q (.o [.mv 12 (.t 5),
      .mv 13 (.t 0),
      .ln 14 (.t 13),
      .bn 15 .lss (.t 12) (.t 14)])
    (.i (.t 15) (.k)
    (.x 0)))
    (.q (.b 1 (.q (.o [.mv 18 (.t 0),
      .mv 19 (.t 5),
      .ia 20 (.t 18) (.t 19) 3,
      .ld 21 (.t 20) (some 3),
      .mv 22 (.t 1),
      .cl (some 23) 71 [(.t 21), (.t 22)],
      .mv 1 (.t 23)])
    (.q (.o [.mv 24 (.t 1),
      .bn 25 .lss (.t 24) (.c (.i .i64 0))])
    (.i (.t 25) (.q (.o [.mv 4 (.c (.i .i64 (-1)))])
    (.r))
    (.k)))))
    (.o [.mv 16 (.t 5),
      .bn 17 .add (.t 16) (.c (.i .i64 1)),
      .mv 5 (.t 17)]))))))
    (.q (.o [.mv 26 (.t 1),
      .mv 4 (.t 26)])
    (.r)))))⟩
abbrev n_laws_szQuestionS : Nat := 37
theorem k_laws_szQuestionS : chkF Go.Proofs.Tryd.prog c_laws_szQuestionS 37 = true := by kernel_rfl
/-- loop.example/s01858/laws.szRRS -/
def c_laws_szRRS : Fn := ⟨2, [(.t 4)],
    .q (.o [.mv 4 (.c (.i .i64 0))])
    (.q (.o [.mv 6 (.t 1),
      .mv 7 (.t 0),
      .ln 8 (.t 7),
      .bn 9 .sub (.t 6) (.t 8),
      .mv 1 (.t 9)])
    (.q (.q (.o [.mv 10 (.t 1),
      .bn 11 .lss (.t 10) (.c (.i .i64 0))])
    (.i (.t 11) (.q (.o [.mv 4 (.c (.i .i64 (-1)))])
    (.r))
    (.k)))
    (.q (.q (.o [.mv 5 (.c (.i .i64 0))])
    (.b 0 (.l [0, 1, 5] (.q (.q (.o [.mv 12 (.t 5),
      .mv 13 (.t 0),
      .ln 14 (.t 13),
      .bn 15 .lss (.t 12) (.t 14)])
    (.i (.t 15) (.k)
    (.x 0)))
    (.q (.b 1 (.q (.o [.mv 18 (.t 0),
      .mv 19 (.t 5),
      .ia 20 (.t 18) (.t 19) 5,
      .ld 21 (.t 20) (some 5),
      .mv 22 (.t 1),
      .cl (some 23) 72 [(.t 21), (.t 22)],
      .mv 1 (.t 23)])
    (.q (.o [.mv 24 (.t 1),
      .bn 25 .lss (.t 24) (.c (.i .i64 0))])
    (.i (.t 25) (.q (.o [.mv 4 (.c (.i .i64 (-1)))])
    (.r))
    (.k)))))
    (.o [.mv 16 (.t 5),
      .bn 17 .add (.t 16) (.c (.i .i64 1)),
      .mv 5 (.t 17)]))))))
    (.q (.o [.mv 26 (.t 1),
      .mv 4 (.t 26)])
    (.r)))))⟩
abbrev n_laws_szRRS : Nat := 38
theorem k_laws_szRRS : chkF Go.Proofs.Tryd.prog c_laws_szRRS 38 = true := by kernel_rfl
/-- loop.example/s01858/laws.toHead -/
def c_laws_toHead : Fn := ⟨1, [(.c 2 (some 11))],
    .q (.o [.lbx 1 (.t 0),
      .lal 2 (.ag [(.i .i64 0), (.b false), (.i .i64 0), (.b false), (.b false), (.b false), (.b false), (.b false), (.b false), (.b false), (.i .i64 0)])])
    (.q (.o [.lal 3 (.ag [(.i .i64 0), (.b false), (.i .i64 0), (.b false), (.b false), (.b false), (.b false), (.b false), (.b false), (.b false), (.i .i64 0)])])
    (.q (.o [.fa 4 (.t 1) 0,
      .ld 5 (.t 4) none,
      .fa 6 (.t 3) 0,
      .st (.t 6) (.t 5) 1])
    (.q (.o [.fa 7 (.t 1) 1,
      .ld 8 (.t 7) none,
      .fa 9 (.t 3) 1,
      .st (.t 9) (.t 8) 1])
    (.q (.o [.fa 10 (.t 1) 2,
      .ld 11 (.t 10) none,
      .fa 12 (.t 3) 2,
      .st (.t 12) (.t 11) 1])
    (.q (.o [.fa 13 (.t 1) 3,
      .ld 14 (.t 13) none,
      .fa 15 (.t 3) 3,
      .st (.t 15) (.t 14) 1])
    (.q (.o [.fa 16 (.t 1) 4,
      .ld 17 (.t 16) none,
      .fa 18 (.t 3) 4,
      .st (.t 18) (.t 17) 1])
    (.q (.o [.fa 19 (.t 1) 5,
      .ld 20 (.t 19) none,
      .fa 21 (.t 3) 5,
      .st (.t 21) (.t 20) 1])
    (.q (.o [.fa 22 (.t 1) 6,
      .ld 23 (.t 22) none,
      .fa 24 (.t 3) 6,
      .st (.t 24) (.t 23) 1])
    (.q (.o [.fa 25 (.t 1) 7,
      .ld 26 (.t 25) none,
      .fa 27 (.t 3) 7,
      .st (.t 27) (.t 26) 1])
    (.q (.o [.fa 28 (.t 1) 8,
      .ld 29 (.t 28) none,
      .fa 30 (.t 3) 8,
      .st (.t 30) (.t 29) 1])
    (.q (.o [.fa 31 (.t 1) 9,
      .ld 32 (.t 31) none,
      .fa 33 (.t 3) 9,
      .st (.t 33) (.t 32) 1])
    (.q (.o [.fa 34 (.t 1) 10,
      .ld 35 (.t 34) none,
      .fa 36 (.t 3) 10,
      .st (.t 36) (.t 35) 1])
    (.q (.o [.ld 37 (.t 3) (some 11),
      .st (.t 2) (.t 37) 11])
    (.r))))))))))))))⟩
abbrev n_laws_toHead : Nat := 42
theorem k_laws_toHead : chkF Go.Proofs.Tryd.prog c_laws_toHead 42 = true := by kernel_rfl
/-- loop.example/s01858/laws.toQuestionS -/
def c_laws_toQuestionS : Fn := ⟨1, [(.t 2)],
    .q (.o [.mv 2 (.c .ns)])
    (.q (.o [.mv 5 (.t 0),
      .ln 6 (.t 5),
      .mk 7 (.ag [(.s []), (.i .i64 0), (.i .i64 0)]) 3 32 (.t 6),
      .mv 3 (.t 7)])
    (.q (.q (.o [.mv 4 (.c (.i .i64 0))])
    (.b 0 (.l [0, 3, 4] (.q (.q (.o [.mv 8 (.t 4),
      .mv 9 (.t 0),
      .ln 10 (.t 9),
      .bn 11 .lss (.t 8) (.t 10)])
    (.i (.t 11) (.k)
    (.x 0)))
    (.q (.b 1 (.o [.mv 14 (.t 3),
      .mv 15 (.t 4),
      .mv 16 (.t 0),
      .mv 17 (.t 4),
      .ia 18 (.t 16) (.t 17) 3,
      .ld 19 (.t 18) (some 3),
      .cl (some 20) 78 [(.t 19)],
      .ia 21 (.t 14) (.t 15) 3,
      .st (.t 21) (.t 20) 3]))
    (.o [.mv 12 (.t 4),
      .bn 13 .add (.t 12) (.c (.i .i64 1)),
      .mv 4 (.t 13)]))))))
    (.q (.o [.mv 22 (.t 3),
      .mv 2 (.t 22)])
    (.r))))⟩
abbrev n_laws_toQuestionS : Nat := 43
theorem k_laws_toQuestionS : chkF Go.Proofs.Tryd.prog c_laws_toQuestionS 43 = true := by kernel_rfl
/-- loop.example/s01858/laws.toRRS -/
def c_laws_toRRS : Fn := ⟨1, [(.t 2)],
    .q (.o [.mv 2 (.c .ns)])
    (.q (.o [.mv 5 (.t 0),
      .ln 6 (.t 5),
      .mk 7 (.ag [(.s []), (.i .i64 0), (.i .i64 0), (.i .i64 0), (.s [])]) 5 56 (.t 6),
      .mv 3 (.t 7)])
    (.q (.q (.o [.mv 4 (.c (.i .i64 0))])
    (.b 0 (.l [0, 3, 4] (.q (.q (.o [.mv 8 (.t 4),
      .mv 9 (.t 0),
      .ln 10 (.t 9),
      .bn 11 .lss (.t 8) (.t 10)])
    (.i (.t 11) (.k)
    (.x 0)))
    (.q (.b 1 (.o [.mv 14 (.t 3),
      .mv 15 (.t 4),
      .mv 16 (.t 0),
      .mv 17 (.t 4),
      .ia 18 (.t 16) (.t 17) 5,
      .ld 19 (.t 18) (some 5),
      .cl (some 20) 79 [(.t 19)],
      .ia 21 (.t 14) (.t 15) 5,
      .st (.t 21) (.t 20) 5]))
    (.o [.mv 12 (.t 4),
      .bn 13 .add (.t 12) (.c (.i .i64 1)),
      .mv 4 (.t 13)]))))))
    (.q (.o [.mv 22 (.t 3),
      .mv 2 (.t 22)])
    (.r))))⟩
abbrev n_laws_toRRS : Nat := 44
theorem k_laws_toRRS : chkF Go.Proofs.Tryd.prog c_laws_toRRS 44 = true := by kernel_rfl
/-- loop.example/s01858/laws.eqHead -/
def c_laws_eqHead : Fn := ⟨2, [(.t 4)],
    .q (.o [.lbx 2 (.t 0),
      .lbx 3 (.t 1),
      .mv 4 (.c (.b false))])
    (.q (.q (.o [.fa 5 (.t 2) 0,
      .ld 6 (.t 5) none,
      .fa 7 (.t 3) 0,
      .ld 8 (.t 7) none,
      .bn 9 .neq (.t 6) (.t 8)])
    (.i (.t 9) (.q (.o [.mv 4 (.c (.b false))])
    (.r))
    (.k)))
    (.q (.q (.o [.fa 10 (.t 2) 1,
      .ld 11 (.t 10) none,
      .fa 12 (.t 3) 1,
      .ld 13 (.t 12) none,
      .be 14 true (.t 11) (.t 13)])
    (.i (.t 14) (.q (.o [.mv 4 (.c (.b false))])
    (.r))
    (.k)))
    (.q (.q (.o [.fa 15 (.t 2) 2,
      .ld 16 (.t 15) none,
      .fa 17 (.t 3) 2,
      .ld 18 (.t 17) none,
      .bn 19 .neq (.t 16) (.t 18)])
    (.i (.t 19) (.q (.o [.mv 4 (.c (.b false))])
    (.r))
    (.k)))
    (.q (.q (.o [.fa 20 (.t 2) 3,
      .ld 21 (.t 20) none,
      .fa 22 (.t 3) 3,
      .ld 23 (.t 22) none,
      .be 24 true (.t 21) (.t 23)])
    (.i (.t 24) (.q (.o [.mv 4 (.c (.b false))])
    (.r))
    (.k)))
    (.q (.q (.o [.fa 25 (.t 2) 4,
      .ld 26 (.t 25) none,
      .fa 27 (.t 3) 4,
      .ld 28 (.t 27) none,
      .be 29 true (.t 26) (.t 28)])
    (.i (.t 29) (.q (.o [.mv 4 (.c (.b false))])
    (.r))
    (.k)))
    (.q (.q (.o [.fa 30 (.t 2) 5,
      .ld 31 (.t 30) none,
      .fa 32 (.t 3) 5,
      .ld 33 (.t 32) none,
      .be 34 true (.t 31) (.t 33)])
    (.i (.t 34) (.q (.o [.mv 4 (.c (.b false))])
    (.r))
    (.k)))
    (.q (.q (.o [.fa 35 (.t 2) 6,
      .ld 36 (.t 35) none,
      .fa 37 (.t 3) 6,
      .ld 38 (.t 37) none,
      .be 39 true (.t 36) (.t 38)])
    (.i (.t 39) (.q (.o [.mv 4 (.c (.b false))])
    (.r))
    (.k)))
    (.q (.q (.o [.fa 40 (.t 2) 7,
      .ld 41 (.t 40) none,
      .fa 42 (.t 3) 7,
      .ld 43 (.t 42) none,
      .be 44 true (.t 41) (.t 43)])
    (.i (.t 44) (.q (.o [.mv 4 (.c (.b false))])
    (.r))
    (.k)))
    (.q (.q (.o [.fa 45 (.t 2) 8,
      .ld 46 (.t 45) none,
      .fa 47 (.t 3) 8,
      .ld 48 (.t 47) none,
      .be 49 true (.t 46) (.t 48)])
    (.i (.t 49) (.q (.o [.mv 4 (.c (.b false))])
    (.r))
    (.k)))
    (.q (.q (.o [.fa 50 (.t 2) 9,
      .ld 51 (.t 50) none,
      .fa 52 (.t 3) 9,
      .ld 53 (.t 52) none,
      .be 54 true (.t 51) (.t 53)])
    (.i (.t 54) (.q (.o [.mv 4 (.c (.b false))])
    (.r))
    (.k)))
    (.q (.q (.o [.fa 55 (.t 2) 10,
      .ld 56 (.t 55) none,
      .fa 57 (.t 3) 10,
      .ld 58 (.t 57) none,
      .bn 59 .neq (.t 56) (.t 58)])
    (.i (.t 59) (.q (.o [.mv 4 (.c (.b false))])
    (.r))
    (.k)))
    (.q (.o [.mv 4 (.c (.b true))])
    (.r)))))))))))))⟩
abbrev n_laws_eqHead : Nat := 47
theorem k_laws_eqHead : chkF Go.Proofs.Tryd.prog c_laws_eqHead 47 = true := by kernel_rfl
/-- loop.example/s01858/laws.eqQuestionS -/
def c_laws_eqQuestionS : Fn := ⟨2, [(.t 4)],
    .q (.o [.mv 4 (.c (.b false))])
    (.q (.q (.o [.mv 6 (.t 0),
      .ln 7 (.t 6),
      .mv 8 (.t 1),
      .ln 9 (.t 8),
      .bn 10 .neq (.t 7) (.t 9)])
    (.i (.t 10) (.q (.o [.mv 4 (.c (.b false))])
    (.r))
    (.k)))
    (.q (.q (.o [.mv 5 (.c (.i .i64 0))])
    (.b 0 (.l [0, 1, 5] (.q (.q (.o [.mv 11 (.t 5),
      .mv 12 (.t 0),
      .ln 13 (.t 12),
      .bn 14 .lss (.t 11) (.t 13)])
    (.i (.t 14) (.k)
    (.x 0)))
    (.q (.b 1 (.q (.p [⟨.mv 17 (.t 0), [], false⟩,
      ⟨.mv 18 (.t 5), [], false⟩,
      ⟨.ia 19 (.t 17) (.t 18) 3, [], false⟩,
      ⟨.ld 20 (.t 19) (some 3), [], false⟩,
      ⟨.mv 21 (.t 1), [], false⟩,
      ⟨.mv 22 (.t 5), [], false⟩,
      ⟨.ia 23 (.t 21) (.t 22) 3, [], false⟩,
      ⟨.ld 24 (.t 23) (some 3), [], false⟩,
      ⟨.cl (some 25) 80 [(.t 20), (.t 24)], [], false⟩,
      ⟨.un 26 .not (.t 25), [], false⟩])
    (.i (.t 26) (.q (.o [.mv 4 (.c (.b false))])
    (.r))
    (.k))))
    (.o [.mv 15 (.t 5),
      .bn 16 .add (.t 15) (.c (.i .i64 1)),
      .mv 5 (.t 16)]))))))
    (.q (.o [.mv 4 (.c (.b true))])
    (.r))))⟩
abbrev n_laws_eqQuestionS : Nat := 48
theorem k_laws_eqQuestionS : chkF Go.Proofs.Tryd.prog c_laws_eqQuestionS 48 = true := by kernel_rfl
/-- loop.example/s01858/laws.eqRRS -/
def c_laws_eqRRS : Fn := ⟨2, [(.t 4)],
    .q (.o [.mv 4 (.c (.b false))])
    (.q (.q (.o [.mv 6 (.t 0),
      .ln 7 (.t 6),
      .mv 8 (.t 1),
      .ln 9 (.t 8),
      .bn 10 .neq (.t 7) (.t 9)])
    (.i (.t 10) (.q (.o [.mv 4 (.c (.b false))])
    (.r))
    (.k)))
    (.q (.q (.o [.mv 5 (.c (.i .i64 0))])
    (.b 0 (.l [0, 1, 5] (.q (.q (.o [.mv 11 (.t 5),
      .mv 12 (.t 0),
      .ln 13 (.t 12),
      .bn 14 .lss (.t 11) (.t 13)])
    (.i (.t 14) (.k)
    (.x 0)))
    (.q (.b 1 (.q (.p [⟨.mv 17 (.t 0), [], false⟩,
      ⟨.mv 18 (.t 5), [], false⟩,
      ⟨.ia 19 (.t 17) (.t 18) 5, [], false⟩,
      ⟨.ld 20 (.t 19) (some 5), [], false⟩,
      ⟨.mv 21 (.t 1), [], false⟩,
      ⟨.mv 22 (.t 5), [], false⟩,
      ⟨.ia 23 (.t 21) (.t 22) 5, [], false⟩,
      ⟨.ld 24 (.t 23) (some 5), [], false⟩,
      ⟨.cl (some 25) 81 [(.t 20), (.t 24)], [], false⟩,
      ⟨.un 26 .not (.t 25), [], false⟩])
    (.i (.t 26) (.q (.o [.mv 4 (.c (.b false))])
    (.r))
    (.k))))
    (.o [.mv 15 (.t 5),
      .bn 16 .add (.t 15) (.c (.i .i64 1)),
      .mv 5 (.t 16)]))))))
    (.q (.o [.mv 4 (.c (.b true))])
    (.r))))⟩
abbrev n_laws_eqRRS : Nat := 49
theorem k_laws_eqRRS : chkF Go.Proofs.Tryd.prog c_laws_eqRRS 49 = true := by kernel_rfl
/-- loop.example/s01858/laws.markQuestionS -/
def c_laws_markQuestionS : Fn := ⟨2, [(.t 4)],
    .q (.o [.mv 4 (.c (.i .i64 0))])
    (.q (.q (.o [.mv 5 (.c (.i .i64 0))])
    (.b 0 (.l [0, 1, 5] (.q (.q (.o [.mv 6 (.t 5),
      .mv 7 (.t 0),
      .ln 8 (.t 7),
      .bn 9 .lss (.t 6) (.t 8)])
    (.i (.t 9) (.k)
    (.x 0)))
    (.q (.b 1 (.q (.o [.mv 12 (.t 0),
      .mv 13 (.t 5),
      .mv 14 (.t 1),
      .cl (some 15) 82 [(.t 14)],
      .ia 16 (.t 12) (.t 13) 3,
      .fa 17 (.t 16) 0,
      .st (.t 17) (.t 15) 1])
    (.q (.o [.mv 18 (.t 1),
      .bn 19 .add (.t 18) (.c (.i .i64 1)),
      .mv 1 (.t 19)])
    (.q (.o [.mv 20 (.t 0),
      .mv 21 (.t 5),
      .mv 22 (.t 1),
      .ia 23 (.t 20) (.t 21) 3,
      .fa 24 (.t 23) 1,
      .st (.t 24) (.t 22) 1])
    (.q (.o [.mv 25 (.t 1),
      .bn 26 .add (.t 25) (.c (.i .i64 1)),
      .mv 1 (.t 26)])
    (.q (.o [.mv 27 (.t 0),
      .mv 28 (.t 5),
      .mv 29 (.t 1),
      .ia 30 (.t 27) (.t 28) 3,
      .fa 31 (.t 30) 2,
      .st (.t 31) (.t 29) 1])
    (.o [.mv 32 (.t 1),
      .bn 33 .add (.t 32) (.c (.i .i64 1)),
      .mv 1 (.t 33)])))))))
    (.o [.mv 10 (.t 5),
      .bn 11 .add (.t 10) (.c (.i .i64 1)),
      .mv 5 (.t 11)]))))))
    (.q (.o [.mv 34 (.t 1),
      .mv 4 (.t 34)])
    (.r)))⟩
abbrev n_laws_markQuestionS : Nat := 50
theorem k_laws_markQuestionS : chkF Go.Proofs.Tryd.prog c_laws_markQuestionS 50 = true := by kernel_rfl
/-- loop.example/s01858/laws.markRRS -/
def c_laws_markRRS : Fn := ⟨2, [(.t 4)],
    .q (.o [.mv 4 (.c (.i .i64 0))])
    (.q (.q (.o [.mv 5 (.c (.i .i64 0))])
    (.b 0 (.l [0, 1, 5] (.q (.q (.o [.mv 6 (.t 5),
      .mv 7 (.t 0),
      .ln 8 (.t 7),
      .bn 9 .lss (.t 6) (.t 8)])
    (.i (.t 9) (.k)
    (.x 0)))
    (.q (.b 1 (.q (.o [.mv 12 (.t 0),
      .mv 13 (.t 5),
      .mv 14 (.t 1),
      .cl (some 15) 82 [(.t 14)],
      .ia 16 (.t 12) (.t 13) 5,
      .fa 17 (.t 16) 0,
      .st (.t 17) (.t 15) 1])
    (.q (.o [.mv 18 (.t 1),
      .bn 19 .add (.t 18) (.c (.i .i64 1)),
      .mv 1 (.t 19)])
    (.q (.o [.mv 20 (.t 0),
      .mv 21 (.t 5),
      .mv 22 (.t 1),
      .ia 23 (.t 20) (.t 21) 5,
      .fa 24 (.t 23) 1,
      .st (.t 24) (.t 22) 1])
    (.q (.o [.mv 25 (.t 1),
      .bn 26 .add (.t 25) (.c (.i .i64 1)),
      .mv 1 (.t 26)])
    (.q (.o [.mv 27 (.t 0),
      .mv 28 (.t 5),
      .mv 29 (.t 1),
      .ia 30 (.t 27) (.t 28) 5,
      .fa 31 (.t 30) 2,
      .st (.t 31) (.t 29) 1])
    (.q (.o [.mv 32 (.t 1),
      .bn 33 .add (.t 32) (.c (.i .i64 1)),
      .mv 1 (.t 33)])
    (.q (.o [.mv 34 (.t 0),
      .mv 35 (.t 5),
      .mv 36 (.t 1),
      .ia 37 (.t 34) (.t 35) 5,
      .fa 38 (.t 37) 3,
      .st (.t 38) (.t 36) 1])
    (.q (.o [.mv 39 (.t 1),
      .bn 40 .add (.t 39) (.c (.i .i64 1)),
      .mv 1 (.t 40)])
    (.q (.o [.mv 41 (.t 0),
      .mv 42 (.t 5),
      .mv 43 (.t 1),
      .cl (some 44) 82 [(.t 43)],
      .ia 45 (.t 41) (.t 42) 5,
      .fa 46 (.t 45) 4,
      .st (.t 46) (.t 44) 1])
    (.o [.mv 47 (.t 1),
      .bn 48 .add (.t 47) (.c (.i .i64 1)),
      .mv 1 (.t 48)])))))))))))
    (.o [.mv 10 (.t 5),
      .bn 11 .add (.t 10) (.c (.i .i64 1)),
      .mv 5 (.t 11)]))))))
    (.q (.o [.mv 49 (.t 1),
      .mv 4 (.t 49)])
    (.r)))⟩
abbrev n_laws_markRRS : Nat := 51
theorem k_laws_markRRS : chkF Go.Proofs.Tryd.prog c_laws_markRRS 51 = true := by kernel_rfl
/-- loop.example/s01858/spec.ReadEdns -/
def c_spec_ReadEdns : Fn := ⟨1, [(.c 2 (some 5)), (.t 3)],
    .q (.o [.lbx 1 (.t 0),
      .lal 2 (.ag [(.b false), (.i .i64 0), (.i .i64 0), (.i .i64 0), .ns]),
      .mv 3 (.c (.i .i64 0))])
    (.q (.q (.p [⟨.fa 8 (.t 1) 12, [], false⟩,
      ⟨.ld 9 (.t 8) none, [], false⟩,
      ⟨.cl (some 10) 86 [(.t 9), (.c (.i .i64 41))], [], true⟩,
      ⟨.fa 11 (.t 1) 13, [], false⟩,
      ⟨.ld 12 (.t 11) none, [2], false⟩,
      ⟨.cl (some 13) 86 [(.t 12), (.c (.i .i64 41))], [], false⟩,
      ⟨.bn 14 .add (.t 10) (.t 13), [], false⟩,
      ⟨.bn 15 .gtr (.t 14) (.c (.i .i64 0)), [], false⟩,
      ⟨.mv 16 (.t 15), [], false⟩,
      ⟨.gd 16 false (.fa 17 (.t 1) 14), [], false⟩,
      ⟨.gd 16 false (.ld 18 (.t 17) none), [], false⟩,
      ⟨.gd 16 false (.cl (some 19) 86 [(.t 18), (.c (.i .i64 41))]), [], false⟩,
      ⟨.gd 16 false (.bn 20 .gtr (.t 19) (.c (.i .i64 1))), [], false⟩,
      ⟨.pk 21 (.t 16) (.c (.b true)) (.t 20), [], false⟩])
    (.i (.t 21) (.q (.o [.bd 22 [(.b false), (.i .i64 0), (.i .i64 0), (.i .i64 0), .ns] [],
      .st (.t 2) (.t 22) 5,
      .mv 3 (.c (.i .i64 32))])
    (.r))
    (.k)))
    (.q (.q (.o [.mv 4 (.c (.i .i64 0))])
    (.b 0 (.l [1, 2, 4] (.q (.q (.o [.mv 23 (.t 4),
      .fa 24 (.t 1) 14,
      .ld 25 (.t 24) none,
      .ln 26 (.t 25),
      .bn 27 .lss (.t 23) (.t 26)])
    (.i (.t 27) (.k)
    (.x 0)))
    (.q (.b 1 (.q (.o [.fa 30 (.t 1) 14,
      .ld 31 (.t 30) none,
      .mv 32 (.t 4),
      .ia 33 (.t 31) (.t 32) 5,
      .ld 34 (.t 33) (some 5),
      .lal 5 (.ag [(.s []), (.i .i64 0), (.i .i64 0), (.i .i64 0), (.s [])]),
      .st (.t 5) (.t 34) 5])
    (.q (.q (.o [.fa 35 (.t 5) 1,
      .ld 36 (.t 35) none,
      .bn 37 .neq (.t 36) (.c (.i .i64 41))])
    (.i (.t 37) (.x 1)
    (.k)))
    (.q (.o [.fa 39 (.t 5) 4,
      .ld 40 (.t 39) none,
      .cl (some 41) 87 [(.t 40)],
      .mv 38 (.t 41),
      .ex 42 (.t 38) 0,
      .ex 43 (.t 38) 1,
      .mv 6 (.t 42),
      .mv 7 (.t 43)])
    (.q (.q (.o [.mv 44 (.t 7),
      .un 45 .not (.t 44),
      .mv 46 (.t 45),
      .gd 46 false (.fa 47 (.t 5) 0),
      .gd 46 false (.ld 48 (.t 47) none),
      .gd 46 false (.bn 49 .neq (.t 48) (.c (.s [0]))),
      .pk 50 (.t 46) (.c (.b true)) (.t 49)])
    (.i (.t 50) (.q (.o [.bd 51 [(.b false), (.i .i64 0), (.i .i64 0), (.i .i64 0), .ns] [],
      .st (.t 2) (.t 51) 5,
      .mv 3 (.c (.i .i64 32))])
    (.r))
    (.k)))
    (.q (.o [.fa 52 (.t 5) 2,
      .ld 53 (.t 52) none,
      .fa 54 (.t 5) 3,
      .ld 55 (.t 54) none,
      .bn 56 .shr (.t 55) (.c (.i .u64 16)),
      .bn 57 .and (.t 56) (.c (.i .i64 255)),
      .fa 58 (.t 5) 3,
      .ld 59 (.t 58) none,
      .bn 60 .and (.t 59) (.c (.i .i64 65535)),
      .mv 61 (.t 6),
      .bd 62 [(.b false), (.i .i64 0), (.i .i64 0), (.i .i64 0), .ns] [(0, 1, (.c (.b true))), (1, 1, (.t 53)), (2, 1, (.t 57)), (3, 1, (.t 60)), (4, 1, (.t 61))],
      .st (.t 2) (.t 62) 5,
      .mv 3 (.c (.i .i64 0))])
    (.r)))))))
    (.o [.mv 28 (.t 4),
      .bn 29 .add (.t 28) (.c (.i .i64 1)),
      .mv 4 (.t 29)]))))))
    (.q (.o [.bd 63 [(.b false), (.i .i64 0), (.i .i64 0), (.i .i64 0), .ns] [],
      .st (.t 2) (.t 63) 5,
      .mv 3 (.c (.i .i64 0))])
    (.r))))⟩
abbrev n_spec_ReadEdns : Nat := 56
theorem k_spec_ReadEdns : chkF Go.Proofs.Tryd.prog c_spec_ReadEdns 56 = true := by kernel_rfl
/-- loop.example/s01858/laws.szQuestion -/
def c_laws_szQuestion : Fn := ⟨2, [(.t 4)],
    .q (.o [.lbx 2 (.t 0),
      .mv 4 (.c (.i .i64 0))])
    (.q (.o [.mv 5 (.t 1),
      .fa 6 (.t 2) 0,
      .ld 7 (.t 6) none,
      .lns 8 (.t 7),
      .bn 9 .sub (.t 5) (.t 8),
      .mv 1 (.t 9)])
    (.q (.q (.o [.mv 10 (.t 1),
      .bn 11 .lss (.t 10) (.c (.i .i64 0))])
    (.i (.t 11) (.q (.o [.mv 4 (.c (.i .i64 (-1)))])
    (.r))
    (.k)))
    (.q (.o [.mv 12 (.t 1),
      .mv 4 (.t 12)])
    (.r))))⟩
abbrev n_laws_szQuestion : Nat := 71
theorem k_laws_szQuestion : chkF Go.Proofs.Tryd.prog c_laws_szQuestion 71 = true := by kernel_rfl
/-- loop.example/s01858/laws.szRR -/
def c_laws_szRR : Fn := ⟨2, [(.t 4)],
    .q (.o [.lbx 2 (.t 0),
      .mv 4 (.c (.i .i64 0))])
    (.q (.o [.mv 5 (.t 1),
      .fa 6 (.t 2) 0,
      .ld 7 (.t 6) none,
      .lns 8 (.t 7),
      .bn 9 .sub (.t 5) (.t 8),
      .mv 1 (.t 9)])
    (.q (.q (.o [.mv 10 (.t 1),
      .bn 11 .lss (.t 10) (.c (.i .i64 0))])
    (.i (.t 11) (.q (.o [.mv 4 (.c (.i .i64 (-1)))])
    (.r))
    (.k)))
    (.q (.o [.mv 12 (.t 1),
      .fa 13 (.t 2) 4,
      .ld 14 (.t 13) none,
      .lns 15 (.t 14),
      .bn 16 .sub (.t 12) (.t 15),
      .mv 1 (.t 16)])
    (.q (.q (.o [.mv 17 (.t 1),
      .bn 18 .lss (.t 17) (.c (.i .i64 0))])
    (.i (.t 18) (.q (.o [.mv 4 (.c (.i .i64 (-1)))])
    (.r))
    (.k)))
    (.q (.o [.mv 19 (.t 1),
      .mv 4 (.t 19)])
    (.r))))))⟩
abbrev n_laws_szRR : Nat := 72
theorem k_laws_szRR : chkF Go.Proofs.Tryd.prog c_laws_szRR 72 = true := by kernel_rfl
/-- loop.example/s01858/laws.toQuestion -/
def c_laws_toQuestion : Fn := ⟨1, [(.c 2 (some 3))],
    .q (.o [.lbx 1 (.t 0),
      .lal 2 (.ag [(.s []), (.i .i64 0), (.i .i64 0)])])
    (.q (.o [.lal 3 (.ag [(.s []), (.i .i64 0), (.i .i64 0)])])
    (.q (.o [.fa 4 (.t 1) 0,
      .ld 5 (.t 4) none,
      .fa 6 (.t 3) 0,
      .st (.t 6) (.t 5) 1])
    (.q (.o [.fa 7 (.t 1) 1,
      .ld 8 (.t 7) none,
      .fa 9 (.t 3) 1,
      .st (.t 9) (.t 8) 1])
    (.q (.o [.fa 10 (.t 1) 2,
      .ld 11 (.t 10) none,
      .fa 12 (.t 3) 2,
      .st (.t 12) (.t 11) 1])
    (.q (.o [.ld 13 (.t 3) (some 3),
      .st (.t 2) (.t 13) 3])
    (.r))))))⟩
abbrev n_laws_toQuestion : Nat := 78
theorem k_laws_toQuestion : chkF Go.Proofs.Tryd.prog c_laws_toQuestion 78 = true := by kernel_rfl
/-- loop.example/s01858/laws.toRR -/
def c_laws_toRR : Fn := ⟨1, [(.c 2 (some 5))],
    .q (.o [.lbx 1 (.t 0),
      .lal 2 (.ag [(.s []), (.i .i64 0), (.i .i64 0), (.i .i64 0), (.s [])])])
    (.q (.o [.lal 3 (.ag [(.s []), (.i .i64 0), (.i .i64 0), (.i .i64 0), (.s [])])])
    (.q (.o [.fa 4 (.t 1) 0,
      .ld 5 (.t 4) none,
      .fa 6 (.t 3) 0,
      .st (.t 6) (.t 5) 1])
    (.q (.o [.fa 7 (.t 1) 1,
      .ld 8 (.t 7) none,
      .fa 9 (.t 3) 1,
      .st (.t 9) (.t 8) 1])
    (.q (.o [.fa 10 (.t 1) 2,
      .ld 11 (.t 10) none,
      .fa 12 (.t 3) 2,
      .st (.t 12) (.t 11) 1])
    (.q (.o [.fa 13 (.t 1) 3,
      .ld 14 (.t 13) none,
      .fa 15 (.t 3) 3,
      .st (.t 15) (.t 14) 1])
    (.q (.o [.fa 16 (.t 1) 4,
      .ld 17 (.t 16) none,
      .fa 18 (.t 3) 4,
      .st (.t 18) (.t 17) 1])
    (.q (.o [.ld 19 (.t 3) (some 5),
      .st (.t 2) (.t 19) 5])
    (.r))))))))⟩
abbrev n_laws_toRR : Nat := 79
theorem k_laws_toRR : chkF Go.Proofs.Tryd.prog c_laws_toRR 79 = true := by kernel_rfl
/-- loop.example/s01858/laws.eqQuestion -/
def c_laws_eqQuestion : Fn := ⟨2, [(.t 4)],
    .q (.o [.lbx 2 (.t 0),
      .lbx 3 (.t 1),
      .mv 4 (.c (.b false))])
    (.q (.q (.o [.fa 5 (.t 2) 0,
      .ld 6 (.t 5) none,
      .fa 7 (.t 3) 0,
      .ld 8 (.t 7) none,
      .bn 9 .neq (.t 6) (.t 8)])
    (.i (.t 9) (.q (.o [.mv 4 (.c (.b false))])
    (.r))
    (.k)))
    (.q (.q (.o [.fa 10 (.t 2) 1,
      .ld 11 (.t 10) none,
      .fa 12 (.t 3) 1,
      .ld 13 (.t 12) none,
      .bn 14 .neq (.t 11) (.t 13)])
    (.i (.t 14) (.q (.o [.mv 4 (.c (.b false))])
    (.r))
    (.k)))
    (.q (.q (.o [.fa 15 (.t 2) 2,
      .ld 16 (.t 15) none,
      .fa 17 (.t 3) 2,
      .ld 18 (.t 17) none,
      .bn 19 .neq (.t 16) (.t 18)])
    (.i (.t 19) (.q (.o [.mv 4 (.c (.b false))])
    (.r))
    (.k)))
    (.q (.o [.mv 4 (.c (.b true))])
    (.r)))))⟩
abbrev n_laws_eqQuestion : Nat := 80
theorem k_laws_eqQuestion : chkF Go.Proofs.Tryd.prog c_laws_eqQuestion 80 = true := by kernel_rfl
/-- loop.example/s01858/laws.markText -/
def c_laws_markText : Fn := ⟨1, [(.t 2)],
    .q (.o [.mv 2 (.c (.s []))])
    (.q (.q (.o [.mv 4 (.t 0),
      .bn 5 .leq (.t 4) (.c (.i .i64 0))])
    (.i (.t 5) (.q (.o [.mv 2 (.c (.s [109, 48]))])
    (.r))
    (.k)))
    (.q (.o [.mv 3 (.c (.s []))])
    (.q (.b 0 (.l [0, 3] (.q (.q (.o [.mv 6 (.t 0),
      .bn 7 .gtr (.t 6) (.c (.i .i64 0))])
    (.i (.t 7) (.k)
    (.x 0)))
    (.b 1 (.q (.o [.mv 8 (.t 0),
      .bn 9 .rem (.t 8) (.c (.i .i64 10)),
      .bn 10 .add (.c (.i .i64 48)) (.t 9),
      .ci 11 .u8 (.t 10),
      .bs 12 (.i .u8 0) 1 1 [(0, (.t 11))],
      .cbs 13 (.t 12),
      .mv 14 (.t 3),
      .bn 15 .add (.t 13) (.t 14),
      .mv 3 (.t 15)])
    (.o [.mv 16 (.t 0),
      .bn 17 .quo (.t 16) (.c (.i .i64 10)),
      .mv 0 (.t 17)]))))))
    (.q (.o [.mv 18 (.t 3),
      .bn 19 .add (.c (.s [109])) (.t 18),
      .mv 2 (.t 19)])
    (.r)))))⟩
abbrev n_laws_markText : Nat := 82
theorem k_laws_markText : chkF Go.Proofs.Tryd.prog c_laws_markText 82 = true := by kernel_rfl
/-- loop.example/s01858/spec.l13Count -/
def c_spec_l13Count : Fn := ⟨2, [(.t 4)],
    .q (.o [.mv 4 (.c (.i .i64 0))])
    (.q (.o [.mv 5 (.c (.i .i64 0))])
    (.q (.q (.o [.mv 6 (.c (.i .i64 0))])
    (.b 0 (.l [0, 1, 5, 6] (.q (.q (.o [.mv 7 (.t 6),
      .mv 8 (.t 0),
      .ln 9 (.t 8),
      .bn 10 .lss (.t 7) (.t 9)])
    (.i (.t 10) (.k)
    (.x 0)))
    (.q (.b 1 (.q (.o [.mv 13 (.t 0),
      .mv 14 (.t 6),
      .ia 15 (.t 13) (.t 14) 5,
      .fa 16 (.t 15) 1,
      .ld 17 (.t 16) none,
      .mv 18 (.t 1),
      .bn 19 .eql (.t 17) (.t 18)])
    (.i (.t 19) (.o [.mv 20 (.t 5),
      .bn 21 .add (.t 20) (.c (.i .i64 1)),
      .mv 5 (.t 21)])
    (.k))))
    (.o [.mv 11 (.t 6),
      .bn 12 .add (.t 11) (.c (.i .i64 1)),
      .mv 6 (.t 12)]))))))
    (.q (.o [.mv 22 (.t 5),
      .mv 4 (.t 22)])
    (.r))))⟩
abbrev n_spec_l13Count : Nat := 86
theorem k_spec_l13Count : chkF Go.Proofs.Tryd.prog c_spec_l13Count 86 = true := by kernel_rfl
/-- loop.example/s01858/spec.l13Options -/
def c_spec_l13Options : Fn := ⟨1, [(.t 2), (.t 3)],
    .q (.o [.mv 2 (.c .ns),
      .mv 3 (.c (.b false))])
    (.q (.o [.bs 6 (.ag [(.i .i64 0), (.s [])]) 2 0 [],
      .mv 4 (.t 6)])
    (.q (.b 0 (.l [0, 4] (.q (.q (.o [.mv 7 (.t 0),
      .bn 8 .neq (.t 7) (.c (.s []))])
    (.i (.t 8) (.k)
    (.x 0)))
    (.b 1 (.q (.q (.o [.mv 9 (.t 0),
      .lns 10 (.t 9),
      .bn 11 .lss (.t 10) (.c (.i .i64 4)),
      .mv 12 (.t 11),
      .gd 12 false (.mv 13 (.t 0)),
      .gd 12 false (.lns 14 (.t 13)),
      .gd 12 false (.bn 15 .sub (.t 14) (.c (.i .i64 4))),
      .gd 12 false (.mv 16 (.t 0)),
      .gd 12 false (.ss 17 (.t 16) (some (.c (.i .i64 2))) (some (.c (.i .i64 4)))),
      .gd 12 false (.cl (some 18) 83 [(.t 17)]),
      .gd 12 false (.bn 19 .lss (.t 15) (.t 18)),
      .pk 20 (.t 12) (.c (.b true)) (.t 19)])
    (.i (.t 20) (.q (.o [.mv 2 (.c .ns),
      .mv 3 (.c (.b false))])
    (.r))
    (.k)))
    (.q (.o [.mv 21 (.t 0),
      .ss 22 (.t 21) (some (.c (.i .i64 2))) (some (.c (.i .i64 4))),
      .cl (some 23) 83 [(.t 22)],
      .bn 24 .add (.c (.i .i64 4)) (.t 23),
      .mv 5 (.t 24)])
    (.q (.p [⟨.mv 25 (.t 4), [], false⟩,
      ⟨.mv 26 (.t 0), [], false⟩,
      ⟨.ss 27 (.t 26) none (some (.c (.i .i64 2))), [], false⟩,
      ⟨.cl (some 28) 83 [(.t 27)], [], false⟩,
      ⟨.mv 29 (.t 0), [], false⟩,
      ⟨.mv 30 (.t 5), [], false⟩,
      ⟨.ss 31 (.t 29) (some (.c (.i .i64 4))) (some (.t 30)), [], false⟩,
      ⟨.bd 32 [(.i .i64 0), (.s [])] [(0, 1, (.t 28)), (1, 1, (.t 31))], [], false⟩,
      ⟨.lbs 33 (.ag [(.i .i64 0), (.s [])]) 2 1 [(0, (.t 32))], [], false⟩,
      ⟨.ap 34 (.t 25) (.t 33) 2 24, [], false⟩,
      ⟨.mv 4 (.t 34), [], false⟩])
    (.o [.mv 35 (.t 0),
      .mv 36 (.t 5),
      .ss 37 (.t 35) (some (.t 36)) none,
      .mv 0 (.t 37)]))))))))
    (.q (.o [.mv 38 (.t 4),
      .mv 2 (.t 38),
      .mv 3 (.c (.b true))])
    (.r))))⟩
abbrev n_spec_l13Options : Nat := 87
theorem k_spec_l13Options : chkF Go.Proofs.Tryd.prog c_spec_l13Options 87 = true := by kernel_rfl
/-- loop.example/s01858/laws.FnExactReadEdns (not in this seat) -/
def c_laws_FnExactReadEdns : Fn := ⟨1, [(.t 2)],
    .q (.o [.lbx 1 (.t 0),
      .mv 2 (.c (.b false))])
    (.q (.o [.mv 3 (.c (.i .i64 1048576))])
    (.q (.o [.ld 14 (.t 1) (some 15),
      .mv 15 (.t 3),
      .cl (some 16) 21 [(.t 14), (.t 15)],
      .mv 3 (.t 16)])
    (.q (.q (.o [.mv 17 (.t 3),
      .bn 18 .lss (.t 17) (.c (.i .i64 0))])
    (.i (.t 18) (.q (.o [.mv 2 (.c (.b true))])
    (.r))
    (.k)))
    (.q (.o [.ld 20 (.t 1) (some 15),
      .cl (some 21) 23 [(.t 20)],
      .cl (some 22) 22 [(.t 21)],
      .mv 19 (.t 22),
      .ex 23 (.t 19) 0,
      .ex 24 (.t 19) 1,
      .lal 4 (.ag [(.b false), (.i .i64 0), (.i .i64 0), (.i .i64 0), .ns]),
      .st (.t 4) (.t 23) 5,
      .mv 5 (.t 24)])
    (.q (.o [.ld 25 (.t 1) (some 15),
      .cl (some 26) 23 [(.t 25)],
      .lal 6 (.ag [(.i .i64 0), (.b false), (.i .i64 0), (.b false), (.b false), (.b false), (.b false), (.b false), (.b false), (.b false), (.i .i64 0), .ns, .ns, .ns, .ns]),
      .st (.t 6) (.t 26) 15])
    (.q (.o [.ld 28 (.t 6) (some 15),
      .cl (some 29) 24 [(.t 28)],
      .mv 27 (.t 29),
      .ex 30 (.t 27) 0,
      .ex 31 (.t 27) 1,
      .lal 7 (.ag [(.b false), (.i .i64 0), (.i .i64 0), (.i .i64 0), .ns]),
      .st (.t 7) (.t 30) 5,
      .mv 8 (.t 31)])
    (.q (.q (.o [.ld 32 (.t 7) (some 5),
      .ld 33 (.t 4) (some 5),
      .cl (some 34) 25 [(.t 32), (.t 33)],
      .un 35 .not (.t 34),
      .mv 36 (.t 35),
      .gd 36 false (.mv 37 (.t 8)),
      .gd 36 false (.mv 38 (.t 5)),
      .gd 36 false (.bn 39 .neq (.t 37) (.t 38)),
      .pk 40 (.t 36) (.c (.b true)) (.t 39)])
    (.i (.t 40) (.q (.o [.mv 2 (.c (.b false))])
    (.r))
    (.k)))
    (.q (.q (.p [⟨.ld 41 (.t 6) (some 15), [], true⟩,
      ⟨.ld 42 (.t 1) (some 15), [], false⟩,
      ⟨.cl (some 43) 23 [(.t 42)], [0], false⟩,
      ⟨.cl (some 44) 26 [(.t 41), (.t 43)], [], false⟩,
      ⟨.un 45 .not (.t 44), [], false⟩])
    (.i (.t 45) (.q (.o [.mv 2 (.c (.b false))])
    (.r))
    (.k)))
    (.q (.o [.mv 9 (.c (.i .i64 1))])
    (.q (.o [.ld 46 (.t 6) (some 15),
      .mv 47 (.t 9),
      .cl (some 48) 27 [(.t 46), (.t 47)],
      .mv 9 (.t 48)])
    (.q (.q (.o [.mv 49 (.t 9),
      .bn 50 .lss (.t 49) (.c (.i .i64 0)),
      .mv 51 (.t 50),
      .gd 51 false (.ld 52 (.t 7) (some 5)),
      .gd 51 false (.ld 53 (.t 4) (some 5)),
      .gd 51 false (.cl (some 54) 25 [(.t 52), (.t 53)]),
      .gd 51 false (.un 55 .not (.t 54)),
      .pk 56 (.t 51) (.c (.b true)) (.t 55),
      .mv 57 (.t 56),
      .gd 57 false (.mv 58 (.t 8)),
      .gd 57 false (.mv 59 (.t 5)),
      .gd 57 false (.bn 60 .neq (.t 58) (.t 59)),
      .pk 61 (.t 57) (.c (.b true)) (.t 60)])
    (.i (.t 61) (.q (.o [.mv 2 (.c (.b false))])
    (.r))
    (.k)))
    (.q (.o [.mv 10 (.c (.i .i64 1))])
    (.q (.o [.ld 62 (.t 7) (some 5),
      .mv 63 (.t 10),
      .cl (some 64) 28 [(.t 62), (.t 63)],
      .mv 10 (.t 64)])
    (.q (.o [.mv 11 (.c (.i .i64 1))])
    (.q (.o [.ld 65 (.t 7) (some 5),
      .mv 66 (.t 11),
      .cl (some 67) 29 [(.t 65), (.t 66)],
      .mv 11 (.t 67)])
    (.q (.q (.o [.mv 68 (.t 11),
      .bn 69 .lss (.t 68) (.c (.i .i64 0))])
    (.i (.t 69) (.q (.o [.mv 2 (.c (.b false))])
    (.r))
    (.k)))
    (.q (.q (.o [.mv 70 (.t 11),
      .mv 71 (.t 10),
      .bn 72 .neq (.t 70) (.t 71)])
    (.i (.t 72) (.q (.o [.mv 2 (.c (.b false))])
    (.r))
    (.k)))
    (.q (.o [.ld 74 (.t 1) (some 15),
      .cl (some 75) 23 [(.t 74)],
      .cl (some 76) 24 [(.t 75)],
      .mv 73 (.t 76),
      .ex 77 (.t 73) 0,
      .ex 78 (.t 73) 1,
      .lal 12 (.ag [(.b false), (.i .i64 0), (.i .i64 0), (.i .i64 0), .ns]),
      .st (.t 12) (.t 77) 5,
      .mv 13 (.t 78)])
    (.q (.q (.o [.ld 79 (.t 12) (some 5),
      .ld 80 (.t 4) (some 5),
      .cl (some 81) 25 [(.t 79), (.t 80)],
      .un 82 .not (.t 81),
      .mv 83 (.t 82),
      .gd 83 false (.mv 84 (.t 13)),
      .gd 83 false (.mv 85 (.t 5)),
      .gd 83 false (.bn 86 .neq (.t 84) (.t 85)),
      .pk 87 (.t 83) (.c (.b true)) (.t 86)])
    (.i (.t 87) (.q (.o [.mv 2 (.c (.b false))])
    (.r))
    (.k)))
    (.q (.o [.mv 11 (.c (.i .i64 1))])
    (.q (.o [.ld 88 (.t 7) (some 5),
      .mv 89 (.t 11),
      .cl (some 90) 29 [(.t 88), (.t 89)],
      .mv 11 (.t 90)])
    (.q (.q (.o [.mv 91 (.t 11),
      .bn 92 .lss (.t 91) (.c (.i .i64 0))])
    (.i (.t 92) (.q (.o [.mv 2 (.c (.b false))])
    (.r))
    (.k)))
    (.q (.q (.o [.mv 93 (.t 11),
      .mv 94 (.t 10),
      .bn 95 .neq (.t 93) (.t 94)])
    (.i (.t 95) (.q (.o [.mv 2 (.c (.b false))])
    (.r))
    (.k)))
    (.q (.o [.mv 2 (.c (.b true))])
    (.r)))))))))))))))))))))))))⟩
abbrev n_laws_FnExactReadEdns : Nat := 10005
/-- loop.example/s01858/laws.eqEdns (not in this seat) -/
def c_laws_eqEdns : Fn := ⟨2, [(.t 4)],
    .q (.o [.lbx 2 (.t 0),
      .lbx 3 (.t 1),
      .mv 4 (.c (.b false))])
    (.q (.q (.o [.fa 5 (.t 2) 0,
      .ld 6 (.t 5) none,
      .fa 7 (.t 3) 0,
      .ld 8 (.t 7) none,
      .be 9 true (.t 6) (.t 8)])
    (.i (.t 9) (.q (.o [.mv 4 (.c (.b false))])
    (.r))
    (.k)))
    (.q (.q (.o [.fa 10 (.t 2) 1,
      .ld 11 (.t 10) none,
      .fa 12 (.t 3) 1,
      .ld 13 (.t 12) none,
      .bn 14 .neq (.t 11) (.t 13)])
    (.i (.t 14) (.q (.o [.mv 4 (.c (.b false))])
    (.r))
    (.k)))
    (.q (.q (.o [.fa 15 (.t 2) 2,
      .ld 16 (.t 15) none,
      .fa 17 (.t 3) 2,
      .ld 18 (.t 17) none,
      .bn 19 .neq (.t 16) (.t 18)])
    (.i (.t 19) (.q (.o [.mv 4 (.c (.b false))])
    (.r))
    (.k)))
    (.q (.q (.o [.fa 20 (.t 2) 3,
      .ld 21 (.t 20) none,
      .fa 22 (.t 3) 3,
      .ld 23 (.t 22) none,
      .bn 24 .neq (.t 21) (.t 23)])
    (.i (.t 24) (.q (.o [.mv 4 (.c (.b false))])
    (.r))
    (.k)))
    (.q (.q (.o [.fa 25 (.t 2) 4,
      .ld 26 (.t 25) none,
      .fa 27 (.t 3) 4,
      .ld 28 (.t 27) none,
      .cl (some 29) 20 [(.t 26), (.t 28)],
      .un 30 .not (.t 29)])
    (.i (.t 30) (.q (.o [.mv 4 (.c (.b false))])
    (.r))
    (.k)))
    (.q (.o [.mv 4 (.c (.b true))])
    (.r)))))))⟩
abbrev n_laws_eqEdns : Nat := 100025
/-- loop.example/s01858/laws.markEdns (not in this seat) -/
def c_laws_markEdns : Fn := ⟨2, [(.t 4)],
    .q (.o [.lbx 2 (.t 0),
      .mv 4 (.c (.i .i64 0))])
    (.q (.o [.fa 5 (.t 2) 4,
      .ld 6 (.t 5) none,
      .mv 7 (.t 1),
      .cl (some 8) 51 [(.t 6), (.t 7)],
      .mv 1 (.t 8)])
    (.q (.o [.mv 9 (.t 1),
      .mv 4 (.t 9)])
    (.r)))⟩
abbrev n_laws_markEdns : Nat := 100028
/-- loop.example/s01858/laws.heldEdns (not in this seat) -/
def c_laws_heldEdns : Fn := ⟨2, [(.t 4)],
    .q (.o [.lbx 2 (.t 0),
      .mv 4 (.c (.i .i64 0))])
    (.q (.o [.fa 5 (.t 2) 4,
      .ld 6 (.t 5) none,
      .mv 7 (.t 1),
      .cl (some 8) 52 [(.t 6), (.t 7)],
      .mv 1 (.t 8)])
    (.q (.q (.o [.mv 9 (.t 1),
      .bn 10 .lss (.t 9) (.c (.i .i64 0))])
    (.i (.t 10) (.q (.o [.mv 4 (.c (.i .i64 (-1)))])
    (.r))
    (.k)))
    (.q (.o [.mv 11 (.t 1),
      .mv 4 (.t 11)])
    (.r))))⟩
abbrev n_laws_heldEdns : Nat := 100029
/-- loop.example/s01858/laws.markOptionS (not in this seat) -/
def c_laws_markOptionS : Fn := ⟨2, [(.t 4)],
    .q (.o [.mv 4 (.c (.i .i64 0))])
    (.q (.q (.o [.mv 5 (.c (.i .i64 0))])
    (.b 0 (.l [0, 1, 5] (.q (.q (.o [.mv 6 (.t 5),
      .mv 7 (.t 0),
      .ln 8 (.t 7),
      .bn 9 .lss (.t 6) (.t 8)])
    (.i (.t 9) (.k)
    (.x 0)))
    (.q (.b 1 (.q (.o [.mv 12 (.t 0),
      .mv 13 (.t 5),
      .mv 14 (.t 1),
      .ia 15 (.t 12) (.t 13) 2,
      .fa 16 (.t 15) 0,
      .st (.t 16) (.t 14) 1])
    (.q (.o [.mv 17 (.t 1),
      .bn 18 .add (.t 17) (.c (.i .i64 1)),
      .mv 1 (.t 18)])
    (.q (.o [.mv 19 (.t 0),
      .mv 20 (.t 5),
      .mv 21 (.t 1),
      .cl (some 22) 58 [(.t 21)],
      .ia 23 (.t 19) (.t 20) 2,
      .fa 24 (.t 23) 1,
      .st (.t 24) (.t 22) 1])
    (.o [.mv 25 (.t 1),
      .bn 26 .add (.t 25) (.c (.i .i64 1)),
      .mv 1 (.t 26)])))))
    (.o [.mv 10 (.t 5),
      .bn 11 .add (.t 10) (.c (.i .i64 1)),
      .mv 5 (.t 11)]))))))
    (.q (.o [.mv 27 (.t 1),
      .mv 4 (.t 27)])
    (.r)))⟩
abbrev n_laws_markOptionS : Nat := 100051
/-- loop.example/s01858/laws.heldOptionS (not in this seat) -/
def c_laws_heldOptionS : Fn := ⟨2, [(.t 4)],
    .q (.o [.mv 4 (.c (.i .i64 0))])
    (.q (.q (.o [.mv 5 (.c (.i .i64 0))])
    (.b 0 (.l [0, 1, 5] (.q (.q (.o [.mv 6 (.t 5),
      .mv 7 (.t 0),
      .ln 8 (.t 7),
      .bn 9 .lss (.t 6) (.t 8)])
    (.i (.t 9) (.k)
    (.x 0)))
    (.q (.b 1 (.q (.q (.o [.mv 12 (.t 0),
      .mv 13 (.t 5),
      .ia 14 (.t 12) (.t 13) 2,
      .fa 15 (.t 14) 0,
      .ld 16 (.t 15) none,
      .mv 17 (.t 1),
      .bn 18 .neq (.t 16) (.t 17)])
    (.i (.t 18) (.q (.o [.mv 4 (.c (.i .i64 (-1)))])
    (.r))
    (.k)))
    (.q (.o [.mv 19 (.t 1),
      .bn 20 .add (.t 19) (.c (.i .i64 1)),
      .mv 1 (.t 20)])
    (.q (.q (.p [⟨.mv 21 (.t 0), [], false⟩,
      ⟨.mv 22 (.t 5), [], false⟩,
      ⟨.ia 23 (.t 21) (.t 22) 2, [], true⟩,
      ⟨.fa 24 (.t 23) 1, [], false⟩,
      ⟨.ld 25 (.t 24) none, [], true⟩,
      ⟨.mv 26 (.t 1), [], false⟩,
      ⟨.cl (some 27) 58 [(.t 26)], [2, 4], false⟩,
      ⟨.bn 28 .neq (.t 25) (.t 27), [], false⟩])
    (.i (.t 28) (.q (.o [.mv 4 (.c (.i .i64 (-1)))])
    (.r))
    (.k)))
    (.o [.mv 29 (.t 1),
      .bn 30 .add (.t 29) (.c (.i .i64 1)),
      .mv 1 (.t 30)])))))
    (.o [.mv 10 (.t 5),
      .bn 11 .add (.t 10) (.c (.i .i64 1)),
      .mv 5 (.t 11)]))))))
    (.q (.o [.mv 31 (.t 1),
      .mv 4 (.t 31)])
    (.r)))⟩
abbrev n_laws_heldOptionS : Nat := 100052
end Go.Vm
