/- Schemas: functions over slices of values without memory of their own (sizes, copies, comparisons): code with a callee left open, run once for all. -/
import Derived.Test.YtfamnghjibckbaaVm22
namespace Go.Vm
set_option linter.unusedVariables false
set_option linter.unusedSimpArgs false
def s_sz (z f : Nat) : Fn := ⟨2, [(.t 4)],
    .q (.o [.mv 4 (.c (.i .i64 0))])
    (.q (.o [.mv 6 (.t 1),
      .mv 7 (.t 0),
      .ln 8 (.t 7),
      .bn 9 .sub (.t 6) (.t 8),
      .mv 1 (.t 9)])
    (.q (.q (.o [.mv 10 (.t 1),
      .bn 11 .lss (.t 10) (.c (.i .i64 0))])
    (.i (.t 11) (.q (.o [.mv 4 (.c (.i .i64 (-1)))])
    (.r))
    (.k)))
    (.q (.q (.o [.mv 5 (.c (.i .i64 0))])
    (.b 0 (.l [0, 1, 5] (.q (.q (.o [.mv 12 (.t 5),
      .mv 13 (.t 0),
      .ln 14 (.t 13),
      .bn 15 .lss (.t 12) (.t 14)])
    (.i (.t 15) (.k)
    (.x 0)))
    (.q (.b 1 (.q (.o [.mv 18 (.t 0),
      .mv 19 (.t 5),
      .ia 20 (.t 18) (.t 19) z,
      .ld 21 (.t 20) (some z),
      .mv 22 (.t 1),
      .cl (some 23) f [(.t 21), (.t 22)],
      .mv 1 (.t 23)])
    (.q (.o [.mv 24 (.t 1),
      .bn 25 .lss (.t 24) (.c (.i .i64 0))])
    (.i (.t 25) (.q (.o [.mv 4 (.c (.i .i64 (-1)))])
    (.r))
    (.k)))))
    (.o [.mv 16 (.t 5),
      .bn 17 .add (.t 16) (.c (.i .i64 1)),
      .mv 5 (.t 17)]))))))
    (.q (.o [.mv 26 (.t 1),
      .mv 4 (.t 26)])
    (.r)))))⟩
def s_to (z by' f : Nat) (zero : AV) : Fn := ⟨1, [(.t 2)],
    .q (.o [.mv 2 (.c .ns)])
    (.q (.o [.mv 5 (.t 0),
      .ln 6 (.t 5),
      .mk 7 zero z by' (.t 6),
      .mv 3 (.t 7)])
    (.q (.q (.o [.mv 4 (.c (.i .i64 0))])
    (.b 0 (.l [0, 3, 4] (.q (.q (.o [.mv 8 (.t 4),
      .mv 9 (.t 0),
      .ln 10 (.t 9),
      .bn 11 .lss (.t 8) (.t 10)])
    (.i (.t 11) (.k)
    (.x 0)))
    (.q (.b 1 (.o [.mv 14 (.t 3),
      .mv 15 (.t 4),
      .mv 16 (.t 0),
      .mv 17 (.t 4),
      .ia 18 (.t 16) (.t 17) z,
      .ld 19 (.t 18) (some z),
      .cl (some 20) f [(.t 19)],
      .ia 21 (.t 14) (.t 15) z,
      .st (.t 21) (.t 20) z]))
    (.o [.mv 12 (.t 4),
      .bn 13 .add (.t 12) (.c (.i .i64 1)),
      .mv 4 (.t 13)]))))))
    (.q (.o [.mv 22 (.t 3),
      .mv 2 (.t 22)])
    (.r))))⟩
def s_eq (z f : Nat) : Fn := ⟨2, [(.t 4)],
    .q (.o [.mv 4 (.c (.b false))])
    (.q (.q (.o [.mv 6 (.t 0),
      .ln 7 (.t 6),
      .mv 8 (.t 1),
      .ln 9 (.t 8),
      .bn 10 .neq (.t 7) (.t 9)])
    (.i (.t 10) (.q (.o [.mv 4 (.c (.b false))])
    (.r))
    (.k)))
    (.q (.q (.o [.mv 5 (.c (.i .i64 0))])
    (.b 0 (.l [0, 1, 5] (.q (.q (.o [.mv 11 (.t 5),
      .mv 12 (.t 0),
      .ln 13 (.t 12),
      .bn 14 .lss (.t 11) (.t 13)])
    (.i (.t 14) (.k)
    (.x 0)))
    (.q (.b 1 (.q (.p [⟨.mv 17 (.t 0), [], false⟩,
      ⟨.mv 18 (.t 5), [], false⟩,
      ⟨.ia 19 (.t 17) (.t 18) z, [], false⟩,
      ⟨.ld 20 (.t 19) (some z), [], false⟩,
      ⟨.mv 21 (.t 1), [], false⟩,
      ⟨.mv 22 (.t 5), [], false⟩,
      ⟨.ia 23 (.t 21) (.t 22) z, [], false⟩,
      ⟨.ld 24 (.t 23) (some z), [], false⟩,
      ⟨.cl (some 25) f [(.t 20), (.t 24)], [], false⟩,
      ⟨.un 26 .not (.t 25), [], false⟩])
    (.i (.t 26) (.q (.o [.mv 4 (.c (.b false))])
    (.r))
    (.k))))
    (.o [.mv 15 (.t 5),
      .bn 16 .add (.t 15) (.c (.i .i64 1)),
      .mv 5 (.t 16)]))))))
    (.q (.o [.mv 4 (.c (.b true))])
    (.r))))⟩
/-- How values without memory of their own are laid: always as so many cells together. -/
structure Enc (α : Type) where
  z : Nat
  fn : α → List AV
  len : ∀ x, (fn x).length = z
def Enc.v {α : Type} (E : Enc α) (x : α) : AV := .ag (E.fn x)
section
variable {C : Tab} {α : Type} {E : Enc α}
abbrev Sx (H : AH) (E : Enc α) (a : AV) (xs : List α) : Prop := Sl H E.z a (xs.map E.v)
abbrev Mx (H : AH) (E : Enc α) (a : AV) (xs : List α) : Prop := Mn H E.z a (xs.map E.v)
theorem Enc.out (x : α) : (E.v x).outs = true := rfl
theorem Enc.cells (x : α) : (E.v x).cells.length = E.z := E.len x
theorem enc_at {xs : List α} {i : Nat} (h : i < xs.length) : (xs.map E.v).getD i .u = E.v xs[i] := by simp [List.getD, h]
theorem part_v (x : α) : partOf (E.v x).cells 0 (some E.z) = E.v x := by
  simp only [partOf, List.drop_zero, Enc.v, AV.cells]
  rw [List.take_of_length_le (Nat.le_of_eq (E.len x))]
theorem Sx.ia {H : AH} {a : AV} {xs : List α} (h : Sx H E a xs) {j : Int} (h0 : 0 ≤ j) (hj : j < xs.length) (L : List Lv) (g : Nat) (hl : j.toNat < xs.length) : slZ H E.z a ∧ iaC j a ∧ ldC ⟨L, g, H⟩ (some E.z) (iaV j.toNat a) ∧ ldX ⟨L, g, H⟩ (some E.z) (iaV j.toNat a) = E.v (xs[j.toNat]) := by
  obtain ⟨h1, h2, -, h4⟩ := Sl.ia h h0 (by simpa using hj)
  have := h4 L g 0 (some E.z) (by rw [enc_at hl]; simp [partFits, Enc.cells])
  rw [fa0, enc_at hl, part_v] at this
  exact ⟨h1, h2, this.1, this.2⟩
/-- An element, read at once. -/
theorem Sx.at' {H : AH} {a : AV} {xs : List α} (h : Sx H E a xs) {j : Nat} (hj : j < xs.length) : slZ H E.z a ∧ iaC (j : Int) a ∧ (∀ (L : List Lv) (g : Nat), ldC ⟨L, g, H⟩ (some E.z) (iaV j a)) ∧ ∀ (L : List Lv) (g : Nat), ldX ⟨L, g, H⟩ (some E.z) (iaV j a) = E.v (xs[j]) := by
  obtain ⟨h1, h2, -, -⟩ := h.ia (j := j) (by omega) (by omega) [] 0 hj
  exact ⟨h1, h2, fun L g => (h.ia (j := j) (by omega) (by omega) L g hj).2.2.1, fun L g => (h.ia (j := j) (by omega) (by omega) L g hj).2.2.2⟩
/-- One field of an element. -/
theorem Sx.fd {H : AH} {a : AV} {xs : List α} (h : Sx H E a xs) {j : Int} (h0 : 0 ≤ j) (hj : j < xs.length) {off : Nat} (ho : off < E.z) (L : List Lv) (g : Nat) (hl : j.toNat < xs.length) : slZ H E.z a ∧ iaC j a ∧ faC (iaV j.toNat a) ∧ ldC ⟨L, g, H⟩ none (faV off (iaV j.toNat a)) ∧ ldX ⟨L, g, H⟩ none (faV off (iaV j.toNat a)) = (E.fn (xs[j.toNat])).getD off .u := by
  obtain ⟨h1, h2, h3, h4⟩ := Sl.ia h h0 (by simpa using hj)
  have := h4 L g off none (by rw [enc_at hl]; simp only [partFits, Enc.cells]; exact ho)
  rw [enc_at hl] at this
  exact ⟨h1, h2, h3, this.1, this.2⟩
theorem Sx.len {H : AH} {a : AV} {xs : List α} (h : Sx H E a xs) : lenV a = .i .i64 xs.length ∧ lenC a := by
  have := Sl.len h
  rwa [List.length_map] at this
def tot' (w : α → Nat) : List α → Nat
  | [] => 0
  | o :: r => w o + tot' w r
theorem tot_app' (w : α → Nat) : ∀ l m : List α, tot' w (l ++ m) = tot' w l + tot' w m
  | [], m => by simp [tot']
  | x :: l, m => by simp [tot', tot_app' w l m]; omega
theorem tot_mem' {w : α → Nat} {o : α} : ∀ {l : List α}, o ∈ l → w o ≤ tot' w l
  | x :: r, h => by
    rcases List.mem_cons.1 h with rfl | h
    · simp [tot']
    · have := tot_mem' (w := w) h; simp [tot']; omega
def T_sz (C : Tab) (f : Nat) (E : Enc α) (w : α → Nat) (pre : α → Prop) : Prop := ∀ (x : α) (left : Int) (H : AH), 0 ≤ left → left ≤ 1099511627776 → pre x → C f [E.v x, .i .i64 left] H = some (.i .i64 (if left - w x < 0 then -1 else left - w x), H)
def T_to (C : Tab) (f : Nat) (E : Enc α) : Prop := ∀ (x : α) (H : AH), C f [E.v x] H = some (E.v x, H)
def T_eq (C : Tab) (f : Nat) (E : Enc α) : Prop := ∀ (x : α) (H : AH), C f [E.v x, E.v x] H = some (.b true, H)
theorem r_szS {a : AV} {xs : List α} {left : Int} {H : AH} {w : α → Nat} {pre : α → Prop} {z f : Nat} (hz : E.z = z) (hC : T_sz C f E w pre) (h : Sx H E a xs) (h0 : 0 ≤ left) (hl : left ≤ 1099511627776) (hn : xs.length ≤ 9223372036854775807) (hd : ∀ o, o ∈ xs → pre o) :
    Runs C (s_sz z f) [a, .i .i64 left] H fun v H' => H' = H ∧ v = .i .i64 (if left - xs.length - tot' w xs < 0 then -1 else left - xs.length - tot' w xs) := by
  subst hz
  unfold Runs s_sz
  obtain ⟨h1, h2⟩ := h.len
  have hw : IntKind.i64.wrap (left - (xs.length : Int)) = left - (xs.length : Int) := w64 (by omega) (by omega)
  by_cases hneg : left - (xs.length : Int) < 0
  · simp only [x_q, x_o, x_b, x_k, x_x, x_r, x_it, x_if, x_p, p_nil, p_on, p_off, p_mv, p_pk, p_bn, p_un, p_be, p_nl, p_eqa, p_ci, p_cbs, p_csb, p_ex, p_bd, p_fd, p_ix, p_ixa, p_ss, p_sl, p_sla, p_ln, p_lns, p_lnm, p_al, p_bx, p_lal, p_lbx, p_ld, p_st, p_fa, p_ia, p_iaa, p_bs, p_lbs, p_mk, p_ap, p_cp, p_cl, p_cv, p_mf, p_nc, p_mm, p_mkm, p_lk, p_mu, p_dl, p_rs, p_nx, cfC, lgPut, isOk, rv, rh, Bool.false_eq_true, d_nil, d_on, d_off, d_mv, d_pk, d_bn, d_un, d_be, d_nl, d_eqa, d_ci, d_cbs, d_csb, d_ex, d_bd, d_fd, d_ix, d_ixa, d_ss, d_sl, d_sla, d_ln, d_lns, d_lnm, d_al, d_bx, d_lal, d_lbx, d_ld, d_st, d_fa, d_ia, d_iaa, d_bs, d_lbs, d_mk, d_ap, d_cp, d_cl, d_cv, d_mf, d_nc, d_mm, d_mkm, d_lk, d_mu, d_dl, d_rs, d_nx, okO, vlO, mmO, dsO, putE, args, evT, evs, evO, look, kOps, kSeq, kBlk, keepE, reduceIte, Nat.reduceEqDiff, binC, binV, intC, intV, strC, strV, unC, unV, AV.isI, AV.isB, AV.isS, AV.toI, AV.toK, AV.toS, allOut, o_b, o_i, o_s, o_np, o_pv, o_pe, o_ns, o_sl, o_nm, o_mp, o_nf, o_fn, o_ag, q_b, q_i, q_s, q_np, q_pv, q_pe, q_ns, q_sl, q_nm, q_mp, q_nf, q_fn, q_ag, Bool.and_true, Bool.and_self, Bool.true_and, AV.b.injEq, decide_eq_true_eq, decide_eq_false_iff_not, true_and, and_true, and_self, reduceCtorEq, imp_self, implies_true, forall_const, eq_self, ex_tp, ex_ag, List.getD_cons_zero, List.getD_cons_succ, List.length_cons, List.length_nil, Nat.reduceAdd, Nat.reduceLT, Nat.zero_add, bne_self_eq_false, decide_true, decide_false, eq_self, true_implies, false_implies, forall_const, Bool.true_eq_false, Bool.not_true, Bool.not_false, not_true_eq_false, not_false_eq_true, if_true, if_false, pickV, cond_true, cond_false, boolV, fillEC, fillE, List.replicate, List.set, Mem.newL, Mem.keep, Int.reduceToNat, Nat.reduceSub, List.drop_zero, Int.reduceLE, Int.le_refl, Nat.sub_zero, Mem.newL, h1, h2, hw, hneg, endK, rsC, rsV, resV]
    rw [if_pos (by omega)]
  · simp only [x_q, x_o, x_b, x_k, x_x, x_r, x_it, x_if, x_p, p_nil, p_on, p_off, p_mv, p_pk, p_bn, p_un, p_be, p_nl, p_eqa, p_ci, p_cbs, p_csb, p_ex, p_bd, p_fd, p_ix, p_ixa, p_ss, p_sl, p_sla, p_ln, p_lns, p_lnm, p_al, p_bx, p_lal, p_lbx, p_ld, p_st, p_fa, p_ia, p_iaa, p_bs, p_lbs, p_mk, p_ap, p_cp, p_cl, p_cv, p_mf, p_nc, p_mm, p_mkm, p_lk, p_mu, p_dl, p_rs, p_nx, cfC, lgPut, isOk, rv, rh, Bool.false_eq_true, d_nil, d_on, d_off, d_mv, d_pk, d_bn, d_un, d_be, d_nl, d_eqa, d_ci, d_cbs, d_csb, d_ex, d_bd, d_fd, d_ix, d_ixa, d_ss, d_sl, d_sla, d_ln, d_lns, d_lnm, d_al, d_bx, d_lal, d_lbx, d_ld, d_st, d_fa, d_ia, d_iaa, d_bs, d_lbs, d_mk, d_ap, d_cp, d_cl, d_cv, d_mf, d_nc, d_mm, d_mkm, d_lk, d_mu, d_dl, d_rs, d_nx, okO, vlO, mmO, dsO, putE, args, evT, evs, evO, look, kOps, kSeq, kBlk, keepE, reduceIte, Nat.reduceEqDiff, binC, binV, intC, intV, strC, strV, unC, unV, AV.isI, AV.isB, AV.isS, AV.toI, AV.toK, AV.toS, allOut, o_b, o_i, o_s, o_np, o_pv, o_pe, o_ns, o_sl, o_nm, o_mp, o_nf, o_fn, o_ag, q_b, q_i, q_s, q_np, q_pv, q_pe, q_ns, q_sl, q_nm, q_mp, q_nf, q_fn, q_ag, Bool.and_true, Bool.and_self, Bool.true_and, AV.b.injEq, decide_eq_true_eq, decide_eq_false_iff_not, true_and, and_true, and_self, reduceCtorEq, imp_self, implies_true, forall_const, eq_self, ex_tp, ex_ag, List.getD_cons_zero, List.getD_cons_succ, List.length_cons, List.length_nil, Nat.reduceAdd, Nat.reduceLT, Nat.zero_add, bne_self_eq_false, decide_true, decide_false, eq_self, true_implies, false_implies, forall_const, Bool.true_eq_false, Bool.not_true, Bool.not_false, not_true_eq_false, not_false_eq_true, if_true, if_false, pickV, cond_true, cond_false, boolV, fillEC, fillE, List.replicate, List.set, Mem.newL, Mem.keep, Int.reduceToNat, Nat.reduceSub, List.drop_zero, Int.reduceLE, Int.le_refl, Nat.sub_zero, Mem.newL, h1, h2, hw, hneg]
    refine exec_loop (fun n e M => ∃ (i : Nat) (x : Int), i ≤ xs.length ∧ n = xs.length - i ∧ look e 0 = a ∧ look e 1 = .i .i64 x ∧ look e 5 = .i .i64 i ∧ 0 ≤ x ∧ x ≤ left ∧ (xs.length : Int) + tot' w (xs.take i) + x = left ∧ ∃ L g, M = ⟨L, g, H⟩) ?_ (n := xs.length) ⟨0, left - xs.length, by omega, by omega, rfl, rfl, rfl, by omega, by omega, by simp [tot']; omega, _, _, rfl⟩
    rintro n e M ⟨i, x, hi, rfl, q0, q1, q5, hx0, hx1, hx2, L, g, rfl⟩
    by_cases hlt : (i : Int) < xs.length
    · have hil : i < xs.length := by omega
      obtain ⟨b1, b2, b3, b4⟩ := h.ia (j := i) (by omega) hlt (keepL [0, 1, 5] L) g hil
      have hmem : xs[i] ∈ xs := List.getElem_mem hil
      have hcall := hC xs[i] x H hx0 (by omega) (hd _ hmem)
      simp only [toNat_nat] at b3 b4
      have ht : tot' w (xs.take (i + 1)) = tot' w (xs.take i) + w (xs[i]) := by
        rw [← List.take_append_getElem hil, tot_app']; simp [tot']
      by_cases hxn : x - (w (xs[i]) : Int) < 0
      · rw [if_pos hxn] at hcall
        simp only [x_q, x_o, x_b, x_k, x_x, x_r, x_it, x_if, x_p, p_nil, p_on, p_off, p_mv, p_pk, p_bn, p_un, p_be, p_nl, p_eqa, p_ci, p_cbs, p_csb, p_ex, p_bd, p_fd, p_ix, p_ixa, p_ss, p_sl, p_sla, p_ln, p_lns, p_lnm, p_al, p_bx, p_lal, p_lbx, p_ld, p_st, p_fa, p_ia, p_iaa, p_bs, p_lbs, p_mk, p_ap, p_cp, p_cl, p_cv, p_mf, p_nc, p_mm, p_mkm, p_lk, p_mu, p_dl, p_rs, p_nx, cfC, lgPut, isOk, rv, rh, Bool.false_eq_true, d_nil, d_on, d_off, d_mv, d_pk, d_bn, d_un, d_be, d_nl, d_eqa, d_ci, d_cbs, d_csb, d_ex, d_bd, d_fd, d_ix, d_ixa, d_ss, d_sl, d_sla, d_ln, d_lns, d_lnm, d_al, d_bx, d_lal, d_lbx, d_ld, d_st, d_fa, d_ia, d_iaa, d_bs, d_lbs, d_mk, d_ap, d_cp, d_cl, d_cv, d_mf, d_nc, d_mm, d_mkm, d_lk, d_mu, d_dl, d_rs, d_nx, okO, vlO, mmO, dsO, putE, args, evT, evs, evO, look, kOps, kSeq, kBlk, keepE, reduceIte, Nat.reduceEqDiff, binC, binV, intC, intV, strC, strV, unC, unV, AV.isI, AV.isB, AV.isS, AV.toI, AV.toK, AV.toS, allOut, o_b, o_i, o_s, o_np, o_pv, o_pe, o_ns, o_sl, o_nm, o_mp, o_nf, o_fn, o_ag, q_b, q_i, q_s, q_np, q_pv, q_pe, q_ns, q_sl, q_nm, q_mp, q_nf, q_fn, q_ag, Bool.and_true, Bool.and_self, Bool.true_and, AV.b.injEq, decide_eq_true_eq, decide_eq_false_iff_not, true_and, and_true, and_self, reduceCtorEq, imp_self, implies_true, forall_const, eq_self, ex_tp, ex_ag, List.getD_cons_zero, List.getD_cons_succ, List.length_cons, List.length_nil, Nat.reduceAdd, Nat.reduceLT, Nat.zero_add, bne_self_eq_false, decide_true, decide_false, eq_self, true_implies, false_implies, forall_const, Bool.true_eq_false, Bool.not_true, Bool.not_false, not_true_eq_false, not_false_eq_true, if_true, if_false, pickV, cond_true, cond_false, boolV, fillEC, fillE, List.replicate, List.set, Mem.newL, Mem.keep, Int.reduceToNat, Nat.reduceSub, List.drop_zero, Int.reduceLE, Int.le_refl, Nat.sub_zero, Mem.newL, q0, q1, q5, h1, h2, hlt, toNat_nat, b1, b2, b3, b4, hcall, Enc.out, Int.reduceNeg, Int.reduceLT, endK, rsC, rsV, resV]
        have hle : tot' w (xs.take (i + 1)) ≤ tot' w xs := by
          conv => rhs; rw [← List.take_append_drop (i + 1) xs, tot_app']
          omega
        rw [if_pos (by omega)]
      · rw [if_neg hxn] at hcall
        simp only [x_q, x_o, x_b, x_k, x_x, x_r, x_it, x_if, x_p, p_nil, p_on, p_off, p_mv, p_pk, p_bn, p_un, p_be, p_nl, p_eqa, p_ci, p_cbs, p_csb, p_ex, p_bd, p_fd, p_ix, p_ixa, p_ss, p_sl, p_sla, p_ln, p_lns, p_lnm, p_al, p_bx, p_lal, p_lbx, p_ld, p_st, p_fa, p_ia, p_iaa, p_bs, p_lbs, p_mk, p_ap, p_cp, p_cl, p_cv, p_mf, p_nc, p_mm, p_mkm, p_lk, p_mu, p_dl, p_rs, p_nx, cfC, lgPut, isOk, rv, rh, Bool.false_eq_true, d_nil, d_on, d_off, d_mv, d_pk, d_bn, d_un, d_be, d_nl, d_eqa, d_ci, d_cbs, d_csb, d_ex, d_bd, d_fd, d_ix, d_ixa, d_ss, d_sl, d_sla, d_ln, d_lns, d_lnm, d_al, d_bx, d_lal, d_lbx, d_ld, d_st, d_fa, d_ia, d_iaa, d_bs, d_lbs, d_mk, d_ap, d_cp, d_cl, d_cv, d_mf, d_nc, d_mm, d_mkm, d_lk, d_mu, d_dl, d_rs, d_nx, okO, vlO, mmO, dsO, putE, args, evT, evs, evO, look, kOps, kSeq, kBlk, keepE, reduceIte, Nat.reduceEqDiff, binC, binV, intC, intV, strC, strV, unC, unV, AV.isI, AV.isB, AV.isS, AV.toI, AV.toK, AV.toS, allOut, o_b, o_i, o_s, o_np, o_pv, o_pe, o_ns, o_sl, o_nm, o_mp, o_nf, o_fn, o_ag, q_b, q_i, q_s, q_np, q_pv, q_pe, q_ns, q_sl, q_nm, q_mp, q_nf, q_fn, q_ag, Bool.and_true, Bool.and_self, Bool.true_and, AV.b.injEq, decide_eq_true_eq, decide_eq_false_iff_not, true_and, and_true, and_self, reduceCtorEq, imp_self, implies_true, forall_const, eq_self, ex_tp, ex_ag, List.getD_cons_zero, List.getD_cons_succ, List.length_cons, List.length_nil, Nat.reduceAdd, Nat.reduceLT, Nat.zero_add, bne_self_eq_false, decide_true, decide_false, eq_self, true_implies, false_implies, forall_const, Bool.true_eq_false, Bool.not_true, Bool.not_false, not_true_eq_false, not_false_eq_true, if_true, if_false, pickV, cond_true, cond_false, boolV, fillEC, fillE, List.replicate, List.set, Mem.newL, Mem.keep, Int.reduceToNat, Nat.reduceSub, List.drop_zero, Int.reduceLE, Int.le_refl, Nat.sub_zero, Mem.newL, q0, q1, q5, h1, h2, hlt, toNat_nat, b1, b2, b3, b4, hcall, Enc.out, hxn]
        refine ⟨xs.length - (i + 1), by omega, i + 1, x - w (xs[i]), by omega, rfl, rfl, by rw [w64 (by omega) (by omega)]; rfl, by omega, by omega, by rw [ht]; omega, _, _, rfl⟩
    · have hil : i = xs.length := by omega
      subst hil
      simp only [x_q, x_o, x_b, x_k, x_x, x_r, x_it, x_if, x_p, p_nil, p_on, p_off, p_mv, p_pk, p_bn, p_un, p_be, p_nl, p_eqa, p_ci, p_cbs, p_csb, p_ex, p_bd, p_fd, p_ix, p_ixa, p_ss, p_sl, p_sla, p_ln, p_lns, p_lnm, p_al, p_bx, p_lal, p_lbx, p_ld, p_st, p_fa, p_ia, p_iaa, p_bs, p_lbs, p_mk, p_ap, p_cp, p_cl, p_cv, p_mf, p_nc, p_mm, p_mkm, p_lk, p_mu, p_dl, p_rs, p_nx, cfC, lgPut, isOk, rv, rh, Bool.false_eq_true, d_nil, d_on, d_off, d_mv, d_pk, d_bn, d_un, d_be, d_nl, d_eqa, d_ci, d_cbs, d_csb, d_ex, d_bd, d_fd, d_ix, d_ixa, d_ss, d_sl, d_sla, d_ln, d_lns, d_lnm, d_al, d_bx, d_lal, d_lbx, d_ld, d_st, d_fa, d_ia, d_iaa, d_bs, d_lbs, d_mk, d_ap, d_cp, d_cl, d_cv, d_mf, d_nc, d_mm, d_mkm, d_lk, d_mu, d_dl, d_rs, d_nx, okO, vlO, mmO, dsO, putE, args, evT, evs, evO, look, kOps, kSeq, kBlk, keepE, reduceIte, Nat.reduceEqDiff, binC, binV, intC, intV, strC, strV, unC, unV, AV.isI, AV.isB, AV.isS, AV.toI, AV.toK, AV.toS, allOut, o_b, o_i, o_s, o_np, o_pv, o_pe, o_ns, o_sl, o_nm, o_mp, o_nf, o_fn, o_ag, q_b, q_i, q_s, q_np, q_pv, q_pe, q_ns, q_sl, q_nm, q_mp, q_nf, q_fn, q_ag, Bool.and_true, Bool.and_self, Bool.true_and, AV.b.injEq, decide_eq_true_eq, decide_eq_false_iff_not, true_and, and_true, and_self, reduceCtorEq, imp_self, implies_true, forall_const, eq_self, ex_tp, ex_ag, List.getD_cons_zero, List.getD_cons_succ, List.length_cons, List.length_nil, Nat.reduceAdd, Nat.reduceLT, Nat.zero_add, bne_self_eq_false, decide_true, decide_false, eq_self, true_implies, false_implies, forall_const, Bool.true_eq_false, Bool.not_true, Bool.not_false, not_true_eq_false, not_false_eq_true, if_true, if_false, pickV, cond_true, cond_false, boolV, fillEC, fillE, List.replicate, List.set, Mem.newL, Mem.keep, Int.reduceToNat, Nat.reduceSub, List.drop_zero, Int.reduceLE, Int.le_refl, Nat.sub_zero, Mem.newL, q0, q1, q5, h1, h2, hlt, endK, rsC, rsV, resV]
      rw [List.take_length] at hx2
      rw [if_neg (by omega)]
      rw [show left - (xs.length : Int) - (tot' w xs : Nat) = x by omega]
theorem r_eqS {a b : AV} {xs : List α} {H : AH} {z f : Nat} (hz : E.z = z) (hC : T_eq C f E) (h : Sx H E a xs) (h' : Sx H E b xs) (hn : xs.length ≤ 1099511627776) : Runs C (s_eq z f) [a, b] H fun v H' => H' = H ∧ v = .b true := by
  subst hz
  unfold Runs s_eq
  obtain ⟨h1, h2⟩ := h.len
  obtain ⟨h3, h4⟩ := h'.len
  simp only [x_q, x_o, x_b, x_k, x_x, x_r, x_it, x_if, x_p, p_nil, p_on, p_off, p_mv, p_pk, p_bn, p_un, p_be, p_nl, p_eqa, p_ci, p_cbs, p_csb, p_ex, p_bd, p_fd, p_ix, p_ixa, p_ss, p_sl, p_sla, p_ln, p_lns, p_lnm, p_al, p_bx, p_lal, p_lbx, p_ld, p_st, p_fa, p_ia, p_iaa, p_bs, p_lbs, p_mk, p_ap, p_cp, p_cl, p_cv, p_mf, p_nc, p_mm, p_mkm, p_lk, p_mu, p_dl, p_rs, p_nx, cfC, lgPut, isOk, rv, rh, Bool.false_eq_true, d_nil, d_on, d_off, d_mv, d_pk, d_bn, d_un, d_be, d_nl, d_eqa, d_ci, d_cbs, d_csb, d_ex, d_bd, d_fd, d_ix, d_ixa, d_ss, d_sl, d_sla, d_ln, d_lns, d_lnm, d_al, d_bx, d_lal, d_lbx, d_ld, d_st, d_fa, d_ia, d_iaa, d_bs, d_lbs, d_mk, d_ap, d_cp, d_cl, d_cv, d_mf, d_nc, d_mm, d_mkm, d_lk, d_mu, d_dl, d_rs, d_nx, okO, vlO, mmO, dsO, putE, args, evT, evs, evO, look, kOps, kSeq, kBlk, keepE, reduceIte, Nat.reduceEqDiff, binC, binV, intC, intV, strC, strV, unC, unV, AV.isI, AV.isB, AV.isS, AV.toI, AV.toK, AV.toS, allOut, o_b, o_i, o_s, o_np, o_pv, o_pe, o_ns, o_sl, o_nm, o_mp, o_nf, o_fn, o_ag, q_b, q_i, q_s, q_np, q_pv, q_pe, q_ns, q_sl, q_nm, q_mp, q_nf, q_fn, q_ag, Bool.and_true, Bool.and_self, Bool.true_and, AV.b.injEq, decide_eq_true_eq, decide_eq_false_iff_not, true_and, and_true, and_self, reduceCtorEq, imp_self, implies_true, forall_const, eq_self, ex_tp, ex_ag, List.getD_cons_zero, List.getD_cons_succ, List.length_cons, List.length_nil, Nat.reduceAdd, Nat.reduceLT, Nat.zero_add, bne_self_eq_false, decide_true, decide_false, eq_self, true_implies, false_implies, forall_const, Bool.true_eq_false, Bool.not_true, Bool.not_false, not_true_eq_false, not_false_eq_true, if_true, if_false, pickV, cond_true, cond_false, boolV, fillEC, fillE, List.replicate, List.set, Mem.newL, Mem.keep, Int.reduceToNat, Nat.reduceSub, List.drop_zero, Int.reduceLE, Int.le_refl, Nat.sub_zero, Mem.newL, h1, h2, h3, h4]
  refine exec_loop (fun n e M => ∃ i : Nat, i ≤ xs.length ∧ n = xs.length - i ∧ look e 0 = a ∧ look e 1 = b ∧ look e 5 = .i .i64 i ∧ ∃ L g, M = ⟨L, g, H⟩) ?_ (n := xs.length) ⟨0, by omega, by omega, rfl, rfl, rfl, _, _, rfl⟩
  rintro n e M ⟨i, hi, rfl, q0, q1, q5, L, g, rfl⟩
  by_cases hlt : (i : Int) < xs.length
  · have hil : i < xs.length := by omega
    obtain ⟨b1, b2, b3, b4⟩ := h.ia (j := i) (by omega) hlt (keepL [0, 1, 5] L) g hil
    obtain ⟨c1, c2, c3, c4⟩ := h'.ia (j := i) (by omega) hlt (keepL [0, 1, 5] L) g hil
    have hcall := hC xs[i] H
    simp only [toNat_nat] at b3 b4 c3 c4
    simp only [x_q, x_o, x_b, x_k, x_x, x_r, x_it, x_if, x_p, p_nil, p_on, p_off, p_mv, p_pk, p_bn, p_un, p_be, p_nl, p_eqa, p_ci, p_cbs, p_csb, p_ex, p_bd, p_fd, p_ix, p_ixa, p_ss, p_sl, p_sla, p_ln, p_lns, p_lnm, p_al, p_bx, p_lal, p_lbx, p_ld, p_st, p_fa, p_ia, p_iaa, p_bs, p_lbs, p_mk, p_ap, p_cp, p_cl, p_cv, p_mf, p_nc, p_mm, p_mkm, p_lk, p_mu, p_dl, p_rs, p_nx, cfC, lgPut, isOk, rv, rh, Bool.false_eq_true, d_nil, d_on, d_off, d_mv, d_pk, d_bn, d_un, d_be, d_nl, d_eqa, d_ci, d_cbs, d_csb, d_ex, d_bd, d_fd, d_ix, d_ixa, d_ss, d_sl, d_sla, d_ln, d_lns, d_lnm, d_al, d_bx, d_lal, d_lbx, d_ld, d_st, d_fa, d_ia, d_iaa, d_bs, d_lbs, d_mk, d_ap, d_cp, d_cl, d_cv, d_mf, d_nc, d_mm, d_mkm, d_lk, d_mu, d_dl, d_rs, d_nx, okO, vlO, mmO, dsO, putE, args, evT, evs, evO, look, kOps, kSeq, kBlk, keepE, reduceIte, Nat.reduceEqDiff, binC, binV, intC, intV, strC, strV, unC, unV, AV.isI, AV.isB, AV.isS, AV.toI, AV.toK, AV.toS, allOut, o_b, o_i, o_s, o_np, o_pv, o_pe, o_ns, o_sl, o_nm, o_mp, o_nf, o_fn, o_ag, q_b, q_i, q_s, q_np, q_pv, q_pe, q_ns, q_sl, q_nm, q_mp, q_nf, q_fn, q_ag, Bool.and_true, Bool.and_self, Bool.true_and, AV.b.injEq, decide_eq_true_eq, decide_eq_false_iff_not, true_and, and_true, and_self, reduceCtorEq, imp_self, implies_true, forall_const, eq_self, ex_tp, ex_ag, List.getD_cons_zero, List.getD_cons_succ, List.length_cons, List.length_nil, Nat.reduceAdd, Nat.reduceLT, Nat.zero_add, bne_self_eq_false, decide_true, decide_false, eq_self, true_implies, false_implies, forall_const, Bool.true_eq_false, Bool.not_true, Bool.not_false, not_true_eq_false, not_false_eq_true, if_true, if_false, pickV, cond_true, cond_false, boolV, fillEC, fillE, List.replicate, List.set, Mem.newL, Mem.keep, Int.reduceToNat, Nat.reduceSub, List.drop_zero, Int.reduceLE, Int.le_refl, Nat.sub_zero, Mem.newL, q0, q1, q5, h1, h2, hlt, toNat_nat, b1, b2, b3, b4, c1, c2, c3, c4, hcall, Enc.out]
    exact ⟨xs.length - (i + 1), by omega, i + 1, by omega, rfl, by rw [w64 (by omega) (by omega)]; rfl, _, _, rfl⟩
  · simp only [x_q, x_o, x_b, x_k, x_x, x_r, x_it, x_if, x_p, p_nil, p_on, p_off, p_mv, p_pk, p_bn, p_un, p_be, p_nl, p_eqa, p_ci, p_cbs, p_csb, p_ex, p_bd, p_fd, p_ix, p_ixa, p_ss, p_sl, p_sla, p_ln, p_lns, p_lnm, p_al, p_bx, p_lal, p_lbx, p_ld, p_st, p_fa, p_ia, p_iaa, p_bs, p_lbs, p_mk, p_ap, p_cp, p_cl, p_cv, p_mf, p_nc, p_mm, p_mkm, p_lk, p_mu, p_dl, p_rs, p_nx, cfC, lgPut, isOk, rv, rh, Bool.false_eq_true, d_nil, d_on, d_off, d_mv, d_pk, d_bn, d_un, d_be, d_nl, d_eqa, d_ci, d_cbs, d_csb, d_ex, d_bd, d_fd, d_ix, d_ixa, d_ss, d_sl, d_sla, d_ln, d_lns, d_lnm, d_al, d_bx, d_lal, d_lbx, d_ld, d_st, d_fa, d_ia, d_iaa, d_bs, d_lbs, d_mk, d_ap, d_cp, d_cl, d_cv, d_mf, d_nc, d_mm, d_mkm, d_lk, d_mu, d_dl, d_rs, d_nx, okO, vlO, mmO, dsO, putE, args, evT, evs, evO, look, kOps, kSeq, kBlk, keepE, reduceIte, Nat.reduceEqDiff, binC, binV, intC, intV, strC, strV, unC, unV, AV.isI, AV.isB, AV.isS, AV.toI, AV.toK, AV.toS, allOut, o_b, o_i, o_s, o_np, o_pv, o_pe, o_ns, o_sl, o_nm, o_mp, o_nf, o_fn, o_ag, q_b, q_i, q_s, q_np, q_pv, q_pe, q_ns, q_sl, q_nm, q_mp, q_nf, q_fn, q_ag, Bool.and_true, Bool.and_self, Bool.true_and, AV.b.injEq, decide_eq_true_eq, decide_eq_false_iff_not, true_and, and_true, and_self, reduceCtorEq, imp_self, implies_true, forall_const, eq_self, ex_tp, ex_ag, List.getD_cons_zero, List.getD_cons_succ, List.length_cons, List.length_nil, Nat.reduceAdd, Nat.reduceLT, Nat.zero_add, bne_self_eq_false, decide_true, decide_false, eq_self, true_implies, false_implies, forall_const, Bool.true_eq_false, Bool.not_true, Bool.not_false, not_true_eq_false, not_false_eq_true, if_true, if_false, pickV, cond_true, cond_false, boolV, fillEC, fillE, List.replicate, List.set, Mem.newL, Mem.keep, Int.reduceToNat, Nat.reduceSub, List.drop_zero, Int.reduceLE, Int.le_refl, Nat.sub_zero, Mem.newL, q0, q1, q5, h1, h2, hlt, endK, rsC, rsV, resV]
theorem r_toS {a : AV} {xs : List α} {H : AH} {z by' f : Nat} {zero : List AV} (hz : E.z = z) (h0 : zero.length = z) (hC : T_to C f E) (h : Sx H E a xs) (hb : by' ≤ 1024) (hn : xs.length ≤ 137438953472) : Runs C (s_to z by' f (.ag zero)) [a] H fun v H' => Ext H H' ∧ Mx H' E v xs ∧ ∀ i, i ∈ idA v → H.n ≤ i := by
  subst hz
  unfold Runs s_to
  obtain ⟨h1, h2⟩ := h.len
  have hby : (xs.length : Int) * by' ≤ 281474976710656 := by
    have h3 : (xs.length : Int) * by' ≤ xs.length * 1024 := Int.mul_le_mul_of_nonneg_left (by omega) (by omega)
    omega
  simp only [x_q, x_o, x_b, x_k, x_x, x_r, x_i, x_p, doPs, cfC, lgPut, isOk, rv, rh, Bool.false_eq_true, doOs, okO, vlO, mmO, dsO, putE, args, evT, evs, evO, look, kOps, kSeq, kBlk, keepE, reduceIte, Nat.reduceEqDiff, binC, binV, intC, intV, strC, strV, unC, unV, AV.isI, AV.isB, AV.isS, AV.toI, AV.toK, AV.toS, allOut, o_b, o_i, o_s, o_np, o_pv, o_pe, o_ns, o_sl, o_nm, o_mp, o_nf, o_fn, o_ag, q_b, q_i, q_s, q_np, q_pv, q_pe, q_ns, q_sl, q_nm, q_mp, q_nf, q_fn, q_ag, Bool.and_true, Bool.and_self, Bool.true_and, AV.b.injEq, decide_eq_true_eq, decide_eq_false_iff_not, true_and, and_true, and_self, decide_true, decide_false, eq_self, true_implies, false_implies, forall_const, Bool.true_eq_false, Bool.not_true, Bool.not_false, not_true_eq_false, not_false_eq_true, if_true, if_false, pickV, cond_true, cond_false, boolV, fillEC, fillE, List.replicate, List.set, Mem.newL, Mem.keep, Int.reduceToNat, Nat.reduceSub, List.drop_zero, Int.reduceLE, Int.le_refl, Nat.sub_zero, Mem.newL, h1, h2]
  have hm0 : Mn (H.new (.arr true 0 E.z (List.replicate xs.length (.ag zero)))) E.z (.sl H.n 0 xs.length) (List.replicate xs.length (.ag zero)) := by
    have := Mn.own (H := H.new (.arr true 0 E.z (List.replicate xs.length (.ag zero)))) (z := E.z) (by simp) new_at
    rwa [List.length_replicate] at this
  refine ⟨⟨by omega, hby, by omega⟩, exec_loop (fun n e M => ∃ i : Nat, i ≤ xs.length ∧ n = xs.length - i ∧ look e 0 = a ∧ look e 3 = .sl H.n 0 xs.length ∧ look e 4 = .i .i64 i ∧ ∃ L g H', M = ⟨L, g, H'⟩ ∧ Ext H H' ∧ Mn H' E.z (.sl H.n 0 xs.length) (((xs.map E.v).take i) ++ List.replicate (xs.length - i) (.ag zero))) ?_ (n := xs.length) ⟨0, by omega, by omega, rfl, rfl, rfl, _, _, _, rfl, .new _ _, by simpa [toNat_nat] using hm0⟩⟩
  rintro n e M ⟨i, hi, rfl, q0, q3, q4, L, g, H', rfl, he, hm⟩
  by_cases hlt : (i : Int) < xs.length
  · have hil : i < xs.length := by omega
    obtain ⟨b1, b2, b3, b4⟩ := Sx.ia (Sl.ext h he) (j := i) (by omega) hlt (keepL [0, 3, 4] L) g hil
    have hcall := hC xs[i] H'
    have hlen : (((xs.map E.v).take i) ++ List.replicate (xs.length - i) (AV.ag zero)).length = xs.length := by simp; omega
    have hget : (((xs.map E.v).take i) ++ List.replicate (xs.length - i) (AV.ag zero)).getD i .u = .ag zero := by
      simp only [List.getD]
      rw [List.getElem?_append_right (by simp; omega), List.getElem?_replicate, if_pos (by simp; omega)]
      rfl
    obtain ⟨d1, d2, -, -⟩ := (Mn.sl hm).ia (j := i) (by omega) (by rw [hlen]; exact hlt)
    obtain ⟨c3, H2, c4, c5, c6, c7⟩ := hm.st (j := i) (by omega) (by rw [hlen]; exact hlt) (v := E.v xs[i]) (off := 0) (by rw [toNat_nat, hget, Enc.cells]; simp [AV.cells, h0]) (keepL [0, 3, 4] L) g
    rw [fa0] at c3 c4
    rw [toNat_nat, hget] at c5
    have e1 : setEl (AV.ag zero) 0 (E.v xs[i]) = E.v xs[i] := by
      simp only [setEl, setPart, List.take_zero, List.nil_append, Nat.zero_add, Enc.cells]
      rw [List.drop_of_length_le (by omega), List.append_nil]
      rfl
    have e2 : (xs.map E.v).getD i .u = E.v xs[i] := enc_at hil
    have e3 := take_rep_set (l := xs.map E.v) (i := i) (z := AV.ag zero) (d := .u) (by simpa using hil)
    rw [e2, List.length_map] at e3
    rw [e1, e3] at c5
    simp only [toNat_nat] at b3 b4 c3 c4
    simp only [x_q, x_o, x_b, x_k, x_x, x_r, x_it, x_if, x_p, p_nil, p_on, p_off, p_mv, p_pk, p_bn, p_un, p_be, p_nl, p_eqa, p_ci, p_cbs, p_csb, p_ex, p_bd, p_fd, p_ix, p_ixa, p_ss, p_sl, p_sla, p_ln, p_lns, p_lnm, p_al, p_bx, p_lal, p_lbx, p_ld, p_st, p_fa, p_ia, p_iaa, p_bs, p_lbs, p_mk, p_ap, p_cp, p_cl, p_cv, p_mf, p_nc, p_mm, p_mkm, p_lk, p_mu, p_dl, p_rs, p_nx, cfC, lgPut, isOk, rv, rh, Bool.false_eq_true, d_nil, d_on, d_off, d_mv, d_pk, d_bn, d_un, d_be, d_nl, d_eqa, d_ci, d_cbs, d_csb, d_ex, d_bd, d_fd, d_ix, d_ixa, d_ss, d_sl, d_sla, d_ln, d_lns, d_lnm, d_al, d_bx, d_lal, d_lbx, d_ld, d_st, d_fa, d_ia, d_iaa, d_bs, d_lbs, d_mk, d_ap, d_cp, d_cl, d_cv, d_mf, d_nc, d_mm, d_mkm, d_lk, d_mu, d_dl, d_rs, d_nx, okO, vlO, mmO, dsO, putE, args, evT, evs, evO, look, kOps, kSeq, kBlk, keepE, reduceIte, Nat.reduceEqDiff, binC, binV, intC, intV, strC, strV, unC, unV, AV.isI, AV.isB, AV.isS, AV.toI, AV.toK, AV.toS, allOut, o_b, o_i, o_s, o_np, o_pv, o_pe, o_ns, o_sl, o_nm, o_mp, o_nf, o_fn, o_ag, q_b, q_i, q_s, q_np, q_pv, q_pe, q_ns, q_sl, q_nm, q_mp, q_nf, q_fn, q_ag, Bool.and_true, Bool.and_self, Bool.true_and, AV.b.injEq, decide_eq_true_eq, decide_eq_false_iff_not, true_and, and_true, and_self, reduceCtorEq, imp_self, implies_true, forall_const, eq_self, ex_tp, ex_ag, List.getD_cons_zero, List.getD_cons_succ, List.length_cons, List.length_nil, Nat.reduceAdd, Nat.reduceLT, Nat.zero_add, bne_self_eq_false, decide_true, decide_false, eq_self, true_implies, false_implies, forall_const, Bool.true_eq_false, Bool.not_true, Bool.not_false, not_true_eq_false, not_false_eq_true, if_true, if_false, pickV, cond_true, cond_false, boolV, fillEC, fillE, List.replicate, List.set, Mem.newL, Mem.keep, Int.reduceToNat, Nat.reduceSub, List.drop_zero, Int.reduceLE, Int.le_refl, Nat.sub_zero, Mem.newL, q0, q3, q4, h1, h2, hlt, toNat_nat, b1, b2, b3, b4, hcall, Enc.out, Enc.cells, c3, c4, d1, d2, Mem.keep]
    exact ⟨xs.length - (i + 1), by omega, i + 1, by omega, rfl, by rw [w64 (by omega) (by omega)]; rfl, _, _, H2, rfl, he.put (l := [H.n]) (by simp) (Nat.le_of_eq c6.symm) (fun j _ hj => c7 j hj), c5⟩
  · have hil : i = xs.length := by omega
    subst hil
    simp only [x_q, x_o, x_b, x_k, x_x, x_r, x_it, x_if, x_p, p_nil, p_on, p_off, p_mv, p_pk, p_bn, p_un, p_be, p_nl, p_eqa, p_ci, p_cbs, p_csb, p_ex, p_bd, p_fd, p_ix, p_ixa, p_ss, p_sl, p_sla, p_ln, p_lns, p_lnm, p_al, p_bx, p_lal, p_lbx, p_ld, p_st, p_fa, p_ia, p_iaa, p_bs, p_lbs, p_mk, p_ap, p_cp, p_cl, p_cv, p_mf, p_nc, p_mm, p_mkm, p_lk, p_mu, p_dl, p_rs, p_nx, cfC, lgPut, isOk, rv, rh, Bool.false_eq_true, d_nil, d_on, d_off, d_mv, d_pk, d_bn, d_un, d_be, d_nl, d_eqa, d_ci, d_cbs, d_csb, d_ex, d_bd, d_fd, d_ix, d_ixa, d_ss, d_sl, d_sla, d_ln, d_lns, d_lnm, d_al, d_bx, d_lal, d_lbx, d_ld, d_st, d_fa, d_ia, d_iaa, d_bs, d_lbs, d_mk, d_ap, d_cp, d_cl, d_cv, d_mf, d_nc, d_mm, d_mkm, d_lk, d_mu, d_dl, d_rs, d_nx, okO, vlO, mmO, dsO, putE, args, evT, evs, evO, look, kOps, kSeq, kBlk, keepE, reduceIte, Nat.reduceEqDiff, binC, binV, intC, intV, strC, strV, unC, unV, AV.isI, AV.isB, AV.isS, AV.toI, AV.toK, AV.toS, allOut, o_b, o_i, o_s, o_np, o_pv, o_pe, o_ns, o_sl, o_nm, o_mp, o_nf, o_fn, o_ag, q_b, q_i, q_s, q_np, q_pv, q_pe, q_ns, q_sl, q_nm, q_mp, q_nf, q_fn, q_ag, Bool.and_true, Bool.and_self, Bool.true_and, AV.b.injEq, decide_eq_true_eq, decide_eq_false_iff_not, true_and, and_true, and_self, reduceCtorEq, imp_self, implies_true, forall_const, eq_self, ex_tp, ex_ag, List.getD_cons_zero, List.getD_cons_succ, List.length_cons, List.length_nil, Nat.reduceAdd, Nat.reduceLT, Nat.zero_add, bne_self_eq_false, decide_true, decide_false, eq_self, true_implies, false_implies, forall_const, Bool.true_eq_false, Bool.not_true, Bool.not_false, not_true_eq_false, not_false_eq_true, if_true, if_false, pickV, cond_true, cond_false, boolV, fillEC, fillE, List.replicate, List.set, Mem.newL, Mem.keep, Int.reduceToNat, Nat.reduceSub, List.drop_zero, Int.reduceLE, Int.le_refl, Nat.sub_zero, Mem.newL, q0, q3, q4, h1, h2, hlt, endK, rsC, rsV, resV, Mem.keep]
    refine ⟨he, ?_, by simp [idA]⟩
    have hm2 := hm
    rw [Nat.sub_self, List.replicate_zero, List.append_nil, List.take_of_length_le (by simp)] at hm2
    exact hm2
end
end Go.Vm
