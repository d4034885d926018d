import Derived.Test.YtfamnghjibckbaaDoorRf3
import Derived.ChangeArms
import Derived.LaidMore
import Derived.OpenShut
import Derived.Stop.Joined
import Derived.Maps.Range
import Derived.Test.YtfamnghjibckbaaDoorProg
import Derived.KernelRfl
import Derived.Laws.Bits64
/- Schemas: functions over slices of values without memory of their own (sizes, copies, comparisons): code with a callee left open, run once for all. -/
namespace Go.Vm
set_option linter.unusedVariables false
set_option linter.unusedSimpArgs false
def s_sz (z f : Nat) : Fn := ⟨2, [(.t 4)],
    .q (.o [.mv 4 (.c (.i .i64 0))])
    (.q (.o [.mv 6 (.t 1),
      .mv 7 (.t 0),
      .ln 8 (.t 7),
      .bn 9 .sub (.t 6) (.t 8),
      .mv 1 (.t 9)])
    (.q (.q (.o [.mv 10 (.t 1),
      .bn 11 .lss (.t 10) (.c (.i .i64 0))])
    (.i (.t 11) (.q (.o [.mv 4 (.c (.i .i64 (-1)))])
    (.r))
    (.k)))
    (.q (.q (.o [.mv 5 (.c (.i .i64 0))])
    (.b 0 (.l [0, 1, 5] (.q (.q (.o [.mv 12 (.t 5),
      .mv 13 (.t 0),
      .ln 14 (.t 13),
      .bn 15 .lss (.t 12) (.t 14)])
    (.i (.t 15) (.k)
    (.x 0)))
    (.q (.b 1 (.q (.o [.mv 18 (.t 0),
      .mv 19 (.t 5),
      .ia 20 (.t 18) (.t 19) z,
      .ld 21 (.t 20) (some z),
      .mv 22 (.t 1),
      .cl (some 23) f [(.t 21), (.t 22)],
      .mv 1 (.t 23)])
    (.q (.o [.mv 24 (.t 1),
      .bn 25 .lss (.t 24) (.c (.i .i64 0))])
    (.i (.t 25) (.q (.o [.mv 4 (.c (.i .i64 (-1)))])
    (.r))
    (.k)))))
    (.o [.mv 16 (.t 5),
      .bn 17 .add (.t 16) (.c (.i .i64 1)),
      .mv 5 (.t 17)]))))))
    (.q (.o [.mv 26 (.t 1),
      .mv 4 (.t 26)])
    (.r)))))⟩
def s_to (z by' f : Nat) (zero : AV) : Fn := ⟨1, [(.t 2)],
    .q (.o [.mv 2 (.c .ns)])
    (.q (.o [.mv 5 (.t 0),
      .ln 6 (.t 5),
      .mk 7 zero z by' (.t 6),
      .mv 3 (.t 7)])
    (.q (.q (.o [.mv 4 (.c (.i .i64 0))])
    (.b 0 (.l [0, 3, 4] (.q (.q (.o [.mv 8 (.t 4),
      .mv 9 (.t 0),
      .ln 10 (.t 9),
      .bn 11 .lss (.t 8) (.t 10)])
    (.i (.t 11) (.k)
    (.x 0)))
    (.q (.b 1 (.o [.mv 14 (.t 3),
      .mv 15 (.t 4),
      .mv 16 (.t 0),
      .mv 17 (.t 4),
      .ia 18 (.t 16) (.t 17) z,
      .ld 19 (.t 18) (some z),
      .cl (some 20) f [(.t 19)],
      .ia 21 (.t 14) (.t 15) z,
      .st (.t 21) (.t 20) z]))
    (.o [.mv 12 (.t 4),
      .bn 13 .add (.t 12) (.c (.i .i64 1)),
      .mv 4 (.t 13)]))))))
    (.q (.o [.mv 22 (.t 3),
      .mv 2 (.t 22)])
    (.r))))⟩
def s_eq (z f : Nat) : Fn := ⟨2, [(.t 4)],
    .q (.o [.mv 4 (.c (.b false))])
    (.q (.q (.o [.mv 6 (.t 0),
      .ln 7 (.t 6),
      .mv 8 (.t 1),
      .ln 9 (.t 8),
      .bn 10 .neq (.t 7) (.t 9)])
    (.i (.t 10) (.q (.o [.mv 4 (.c (.b false))])
    (.r))
    (.k)))
    (.q (.q (.o [.mv 5 (.c (.i .i64 0))])
    (.b 0 (.l [0, 1, 5] (.q (.q (.o [.mv 11 (.t 5),
      .mv 12 (.t 0),
      .ln 13 (.t 12),
      .bn 14 .lss (.t 11) (.t 13)])
    (.i (.t 14) (.k)
    (.x 0)))
    (.q (.b 1 (.q (.p [⟨.mv 17 (.t 0), [], false⟩,
      ⟨.mv 18 (.t 5), [], false⟩,
      ⟨.ia 19 (.t 17) (.t 18) z, [], false⟩,
      ⟨.ld 20 (.t 19) (some z), [], false⟩,
      ⟨.mv 21 (.t 1), [], false⟩,
      ⟨.mv 22 (.t 5), [], false⟩,
      ⟨.ia 23 (.t 21) (.t 22) z, [], false⟩,
      ⟨.ld 24 (.t 23) (some z), [], false⟩,
      ⟨.cl (some 25) f [(.t 20), (.t 24)], [], false⟩,
      ⟨.un 26 .not (.t 25), [], false⟩])
    (.i (.t 26) (.q (.o [.mv 4 (.c (.b false))])
    (.r))
    (.k))))
    (.o [.mv 15 (.t 5),
      .bn 16 .add (.t 15) (.c (.i .i64 1)),
      .mv 5 (.t 16)]))))))
    (.q (.o [.mv 4 (.c (.b true))])
    (.r))))⟩
/-- How values without memory of their own are laid: always as so many cells together. -/
structure Enc (α : Type) where
  z : Nat
  fn : α → List AV
  len : ∀ x, (fn x).length = z
def Enc.v {α : Type} (E : Enc α) (x : α) : AV := .ag (E.fn x)
section
variable {C : Tab} {α : Type} {E : Enc α}
abbrev Sx (H : AH) (E : Enc α) (a : AV) (xs : List α) : Prop := Sl H E.z a (xs.map E.v)
abbrev Mx (H : AH) (E : Enc α) (a : AV) (xs : List α) : Prop := Mn H E.z a (xs.map E.v)
theorem Enc.out (x : α) : (E.v x).outs = true := rfl
theorem Enc.cells (x : α) : (E.v x).cells.length = E.z := E.len x
theorem enc_at {xs : List α} {i : Nat} (h : i < xs.length) : (xs.map E.v).getD i .u = E.v xs[i] := by simp [List.getD, h]
theorem part_v (x : α) : partOf (E.v x).cells 0 (some E.z) = E.v x := by
  simp only [partOf, List.drop_zero, Enc.v, AV.cells]
  rw [List.take_of_length_le (Nat.le_of_eq (E.len x))]
theorem Sx.ia {H : AH} {a : AV} {xs : List α} (h : Sx H E a xs) {j : Int} (h0 : 0 ≤ j) (hj : j < xs.length) (L : List Lv) (g : Nat) (hl : j.toNat < xs.length) : slZ H E.z a ∧ iaC j a ∧ ldC ⟨L, g, H⟩ (some E.z) (iaV j.toNat a) ∧ ldX ⟨L, g, H⟩ (some E.z) (iaV j.toNat a) = E.v (xs[j.toNat]) := by
  obtain ⟨h1, h2, -, h4⟩ := Sl.ia h h0 (by simpa using hj)
  have := h4 L g 0 (some E.z) (by rw [enc_at hl]; simp [partFits, Enc.cells])
  rw [fa0, enc_at hl, part_v] at this
  exact ⟨h1, h2, this.1, this.2⟩
/-- An element, read at once. -/
theorem Sx.at' {H : AH} {a : AV} {xs : List α} (h : Sx H E a xs) {j : Nat} (hj : j < xs.length) : slZ H E.z a ∧ iaC (j : Int) a ∧ (∀ (L : List Lv) (g : Nat), ldC ⟨L, g, H⟩ (some E.z) (iaV j a)) ∧ ∀ (L : List Lv) (g : Nat), ldX ⟨L, g, H⟩ (some E.z) (iaV j a) = E.v (xs[j]) := by
  obtain ⟨h1, h2, -, -⟩ := h.ia (j := j) (by omega) (by omega) [] 0 hj
  exact ⟨h1, h2, fun L g => (h.ia (j := j) (by omega) (by omega) L g hj).2.2.1, fun L g => (h.ia (j := j) (by omega) (by omega) L g hj).2.2.2⟩
/-- One field of an element. -/
theorem Sx.fd {H : AH} {a : AV} {xs : List α} (h : Sx H E a xs) {j : Int} (h0 : 0 ≤ j) (hj : j < xs.length) {off : Nat} (ho : off < E.z) (L : List Lv) (g : Nat) (hl : j.toNat < xs.length) : slZ H E.z a ∧ iaC j a ∧ faC (iaV j.toNat a) ∧ ldC ⟨L, g, H⟩ none (faV off (iaV j.toNat a)) ∧ ldX ⟨L, g, H⟩ none (faV off (iaV j.toNat a)) = (E.fn (xs[j.toNat])).getD off .u := by
  obtain ⟨h1, h2, h3, h4⟩ := Sl.ia h h0 (by simpa using hj)
  have := h4 L g off none (by rw [enc_at hl]; simp only [partFits, Enc.cells]; exact ho)
  rw [enc_at hl] at this
  exact ⟨h1, h2, h3, this.1, this.2⟩
theorem Sx.len {H : AH} {a : AV} {xs : List α} (h : Sx H E a xs) : lenV a = .i .i64 xs.length ∧ lenC a := by
  have := Sl.len h
  rwa [List.length_map] at this
def tot' (w : α → Nat) : List α → Nat
  | [] => 0
  | o :: r => w o + tot' w r
theorem tot_app' (w : α → Nat) : ∀ l m : List α, tot' w (l ++ m) = tot' w l + tot' w m
  | [], m => by simp [tot']
  | x :: l, m => by simp [tot', tot_app' w l m]; omega
theorem tot_mem' {w : α → Nat} {o : α} : ∀ {l : List α}, o ∈ l → w o ≤ tot' w l
  | x :: r, h => by
    rcases List.mem_cons.1 h with rfl | h
    · simp [tot']
    · have := tot_mem' (w := w) h; simp [tot']; omega
def T_sz (C : Tab) (f : Nat) (E : Enc α) (w : α → Nat) (pre : α → Prop) : Prop := ∀ (x : α) (left : Int) (H : AH), 0 ≤ left → left ≤ 1099511627776 → pre x → C f [E.v x, .i .i64 left] H = some (.i .i64 (if left - w x < 0 then -1 else left - w x), H)
def T_to (C : Tab) (f : Nat) (E : Enc α) : Prop := ∀ (x : α) (H : AH), C f [E.v x] H = some (E.v x, H)
def T_eq (C : Tab) (f : Nat) (E : Enc α) : Prop := ∀ (x : α) (H : AH), C f [E.v x, E.v x] H = some (.b true, H)
theorem r_szS {a : AV} {xs : List α} {left : Int} {H : AH} {w : α → Nat} {pre : α → Prop} {z f : Nat} (hz : E.z = z) (hC : T_sz C f E w pre) (h : Sx H E a xs) (h0 : 0 ≤ left) (hl : left ≤ 1099511627776) (hn : xs.length ≤ 9223372036854775807) (hd : ∀ o, o ∈ xs → pre o) :
    Runs C (s_sz z f) [a, .i .i64 left] H fun v H' => H' = H ∧ v = .i .i64 (if left - xs.length - tot' w xs < 0 then -1 else left - xs.length - tot' w xs) := by
  subst hz
  unfold Runs s_sz
  obtain ⟨h1, h2⟩ := h.len
  have hw : IntKind.i64.wrap (left - (xs.length : Int)) = left - (xs.length : Int) := w64 (by omega) (by omega)
  by_cases hneg : left - (xs.length : Int) < 0
  · simp only [x_q, x_o, x_b, x_k, x_x, x_r, x_it, x_if, x_p, p_nil, p_on, p_off, p_mv, p_pk, p_bn, p_un, p_be, p_nl, p_eqa, p_ci, p_cbs, p_csb, p_ex, p_bd, p_fd, p_ix, p_ixa, p_ss, p_sl, p_sla, p_ln, p_lns, p_lnm, p_al, p_bx, p_lal, p_lbx, p_ld, p_st, p_fa, p_ia, p_iaa, p_bs, p_lbs, p_mk, p_ap, p_cp, p_cl, p_cv, p_mf, p_nc, p_mm, p_mkm, p_lk, p_mu, p_dl, p_rs, p_nx, cfC, lgPut, isOk, rv, rh, Bool.false_eq_true, d_nil, d_on, d_off, d_mv, d_pk, d_bn, d_un, d_be, d_nl, d_eqa, d_ci, d_cbs, d_csb, d_ex, d_bd, d_fd, d_ix, d_ixa, d_ss, d_sl, d_sla, d_ln, d_lns, d_lnm, d_al, d_bx, d_lal, d_lbx, d_ld, d_st, d_fa, d_ia, d_iaa, d_bs, d_lbs, d_mk, d_ap, d_cp, d_cl, d_cv, d_mf, d_nc, d_mm, d_mkm, d_lk, d_mu, d_dl, d_rs, d_nx, okO, vlO, mmO, dsO, putE, args, evT, evs, evO, look, kOps, kSeq, kBlk, keepE, reduceIte, Nat.reduceEqDiff, binC, binV, intC, intV, strC, strV, unC, unV, AV.isI, AV.isB, AV.isS, AV.toI, AV.toK, AV.toS, allOut, o_b, o_i, o_s, o_np, o_pv, o_pe, o_ns, o_sl, o_nm, o_mp, o_nf, o_fn, o_ag, q_b, q_i, q_s, q_np, q_pv, q_pe, q_ns, q_sl, q_nm, q_mp, q_nf, q_fn, q_ag, Bool.and_true, Bool.and_self, Bool.true_and, AV.b.injEq, decide_eq_true_eq, decide_eq_false_iff_not, true_and, and_true, and_self, reduceCtorEq, imp_self, implies_true, forall_const, eq_self, ex_tp, ex_ag, List.getD_cons_zero, List.getD_cons_succ, List.length_cons, List.length_nil, Nat.reduceAdd, Nat.reduceLT, Nat.zero_add, bne_self_eq_false, decide_true, decide_false, eq_self, true_implies, false_implies, forall_const, Bool.true_eq_false, Bool.not_true, Bool.not_false, not_true_eq_false, not_false_eq_true, if_true, if_false, pickV, cond_true, cond_false, boolV, fillEC, fillE, List.replicate, List.set, Mem.newL, Mem.keep, Int.reduceToNat, Nat.reduceSub, List.drop_zero, Int.reduceLE, Int.le_refl, Nat.sub_zero, Mem.newL, h1, h2, hw, hneg, endK, rsC, rsV, resV]
    rw [if_pos (by omega)]
  · simp only [x_q, x_o, x_b, x_k, x_x, x_r, x_it, x_if, x_p, p_nil, p_on, p_off, p_mv, p_pk, p_bn, p_un, p_be, p_nl, p_eqa, p_ci, p_cbs, p_csb, p_ex, p_bd, p_fd, p_ix, p_ixa, p_ss, p_sl, p_sla, p_ln, p_lns, p_lnm, p_al, p_bx, p_lal, p_lbx, p_ld, p_st, p_fa, p_ia, p_iaa, p_bs, p_lbs, p_mk, p_ap, p_cp, p_cl, p_cv, p_mf, p_nc, p_mm, p_mkm, p_lk, p_mu, p_dl, p_rs, p_nx, cfC, lgPut, isOk, rv, rh, Bool.false_eq_true, d_nil, d_on, d_off, d_mv, d_pk, d_bn, d_un, d_be, d_nl, d_eqa, d_ci, d_cbs, d_csb, d_ex, d_bd, d_fd, d_ix, d_ixa, d_ss, d_sl, d_sla, d_ln, d_lns, d_lnm, d_al, d_bx, d_lal, d_lbx, d_ld, d_st, d_fa, d_ia, d_iaa, d_bs, d_lbs, d_mk, d_ap, d_cp, d_cl, d_cv, d_mf, d_nc, d_mm, d_mkm, d_lk, d_mu, d_dl, d_rs, d_nx, okO, vlO, mmO, dsO, putE, args, evT, evs, evO, look, kOps, kSeq, kBlk, keepE, reduceIte, Nat.reduceEqDiff, binC, binV, intC, intV, strC, strV, unC, unV, AV.isI, AV.isB, AV.isS, AV.toI, AV.toK, AV.toS, allOut, o_b, o_i, o_s, o_np, o_pv, o_pe, o_ns, o_sl, o_nm, o_mp, o_nf, o_fn, o_ag, q_b, q_i, q_s, q_np, q_pv, q_pe, q_ns, q_sl, q_nm, q_mp, q_nf, q_fn, q_ag, Bool.and_true, Bool.and_self, Bool.true_and, AV.b.injEq, decide_eq_true_eq, decide_eq_false_iff_not, true_and, and_true, and_self, reduceCtorEq, imp_self, implies_true, forall_const, eq_self, ex_tp, ex_ag, List.getD_cons_zero, List.getD_cons_succ, List.length_cons, List.length_nil, Nat.reduceAdd, Nat.reduceLT, Nat.zero_add, bne_self_eq_false, decide_true, decide_false, eq_self, true_implies, false_implies, forall_const, Bool.true_eq_false, Bool.not_true, Bool.not_false, not_true_eq_false, not_false_eq_true, if_true, if_false, pickV, cond_true, cond_false, boolV, fillEC, fillE, List.replicate, List.set, Mem.newL, Mem.keep, Int.reduceToNat, Nat.reduceSub, List.drop_zero, Int.reduceLE, Int.le_refl, Nat.sub_zero, Mem.newL, h1, h2, hw, hneg]
    refine exec_loop (fun n e M => ∃ (i : Nat) (x : Int), i ≤ xs.length ∧ n = xs.length - i ∧ look e 0 = a ∧ look e 1 = .i .i64 x ∧ look e 5 = .i .i64 i ∧ 0 ≤ x ∧ x ≤ left ∧ (xs.length : Int) + tot' w (xs.take i) + x = left ∧ ∃ L g, M = ⟨L, g, H⟩) ?_ (n := xs.length) ⟨0, left - xs.length, by omega, by omega, rfl, rfl, rfl, by omega, by omega, by simp [tot']; omega, _, _, rfl⟩
    rintro n e M ⟨i, x, hi, rfl, q0, q1, q5, hx0, hx1, hx2, L, g, rfl⟩
    by_cases hlt : (i : Int) < xs.length
    · have hil : i < xs.length := by omega
      obtain ⟨b1, b2, b3, b4⟩ := h.ia (j := i) (by omega) hlt (keepL [0, 1, 5] L) g hil
      have hmem : xs[i] ∈ xs := List.getElem_mem hil
      have hcall := hC xs[i] x H hx0 (by omega) (hd _ hmem)
      simp only [toNat_nat] at b3 b4
      have ht : tot' w (xs.take (i + 1)) = tot' w (xs.take i) + w (xs[i]) := by
        rw [← List.take_append_getElem hil, tot_app']; simp [tot']
      by_cases hxn : x - (w (xs[i]) : Int) < 0
      · rw [if_pos hxn] at hcall
        simp only [x_q, x_o, x_b, x_k, x_x, x_r, x_it, x_if, x_p, p_nil, p_on, p_off, p_mv, p_pk, p_bn, p_un, p_be, p_nl, p_eqa, p_ci, p_cbs, p_csb, p_ex, p_bd, p_fd, p_ix, p_ixa, p_ss, p_sl, p_sla, p_ln, p_lns, p_lnm, p_al, p_bx, p_lal, p_lbx, p_ld, p_st, p_fa, p_ia, p_iaa, p_bs, p_lbs, p_mk, p_ap, p_cp, p_cl, p_cv, p_mf, p_nc, p_mm, p_mkm, p_lk, p_mu, p_dl, p_rs, p_nx, cfC, lgPut, isOk, rv, rh, Bool.false_eq_true, d_nil, d_on, d_off, d_mv, d_pk, d_bn, d_un, d_be, d_nl, d_eqa, d_ci, d_cbs, d_csb, d_ex, d_bd, d_fd, d_ix, d_ixa, d_ss, d_sl, d_sla, d_ln, d_lns, d_lnm, d_al, d_bx, d_lal, d_lbx, d_ld, d_st, d_fa, d_ia, d_iaa, d_bs, d_lbs, d_mk, d_ap, d_cp, d_cl, d_cv, d_mf, d_nc, d_mm, d_mkm, d_lk, d_mu, d_dl, d_rs, d_nx, okO, vlO, mmO, dsO, putE, args, evT, evs, evO, look, kOps, kSeq, kBlk, keepE, reduceIte, Nat.reduceEqDiff, binC, binV, intC, intV, strC, strV, unC, unV, AV.isI, AV.isB, AV.isS, AV.toI, AV.toK, AV.toS, allOut, o_b, o_i, o_s, o_np, o_pv, o_pe, o_ns, o_sl, o_nm, o_mp, o_nf, o_fn, o_ag, q_b, q_i, q_s, q_np, q_pv, q_pe, q_ns, q_sl, q_nm, q_mp, q_nf, q_fn, q_ag, Bool.and_true, Bool.and_self, Bool.true_and, AV.b.injEq, decide_eq_true_eq, decide_eq_false_iff_not, true_and, and_true, and_self, reduceCtorEq, imp_self, implies_true, forall_const, eq_self, ex_tp, ex_ag, List.getD_cons_zero, List.getD_cons_succ, List.length_cons, List.length_nil, Nat.reduceAdd, Nat.reduceLT, Nat.zero_add, bne_self_eq_false, decide_true, decide_false, eq_self, true_implies, false_implies, forall_const, Bool.true_eq_false, Bool.not_true, Bool.not_false, not_true_eq_false, not_false_eq_true, if_true, if_false, pickV, cond_true, cond_false, boolV, fillEC, fillE, List.replicate, List.set, Mem.newL, Mem.keep, Int.reduceToNat, Nat.reduceSub, List.drop_zero, Int.reduceLE, Int.le_refl, Nat.sub_zero, Mem.newL, q0, q1, q5, h1, h2, hlt, toNat_nat, b1, b2, b3, b4, hcall, Enc.out, Int.reduceNeg, Int.reduceLT, endK, rsC, rsV, resV]
        have hle : tot' w (xs.take (i + 1)) ≤ tot' w xs := by
          conv => rhs; rw [← List.take_append_drop (i + 1) xs, tot_app']
          omega
        rw [if_pos (by omega)]
      · rw [if_neg hxn] at hcall
        simp only [x_q, x_o, x_b, x_k, x_x, x_r, x_it, x_if, x_p, p_nil, p_on, p_off, p_mv, p_pk, p_bn, p_un, p_be, p_nl, p_eqa, p_ci, p_cbs, p_csb, p_ex, p_bd, p_fd, p_ix, p_ixa, p_ss, p_sl, p_sla, p_ln, p_lns, p_lnm, p_al, p_bx, p_lal, p_lbx, p_ld, p_st, p_fa, p_ia, p_iaa, p_bs, p_lbs, p_mk, p_ap, p_cp, p_cl, p_cv, p_mf, p_nc, p_mm, p_mkm, p_lk, p_mu, p_dl, p_rs, p_nx, cfC, lgPut, isOk, rv, rh, Bool.false_eq_true, d_nil, d_on, d_off, d_mv, d_pk, d_bn, d_un, d_be, d_nl, d_eqa, d_ci, d_cbs, d_csb, d_ex, d_bd, d_fd, d_ix, d_ixa, d_ss, d_sl, d_sla, d_ln, d_lns, d_lnm, d_al, d_bx, d_lal, d_lbx, d_ld, d_st, d_fa, d_ia, d_iaa, d_bs, d_lbs, d_mk, d_ap, d_cp, d_cl, d_cv, d_mf, d_nc, d_mm, d_mkm, d_lk, d_mu, d_dl, d_rs, d_nx, okO, vlO, mmO, dsO, putE, args, evT, evs, evO, look, kOps, kSeq, kBlk, keepE, reduceIte, Nat.reduceEqDiff, binC, binV, intC, intV, strC, strV, unC, unV, AV.isI, AV.isB, AV.isS, AV.toI, AV.toK, AV.toS, allOut, o_b, o_i, o_s, o_np, o_pv, o_pe, o_ns, o_sl, o_nm, o_mp, o_nf, o_fn, o_ag, q_b, q_i, q_s, q_np, q_pv, q_pe, q_ns, q_sl, q_nm, q_mp, q_nf, q_fn, q_ag, Bool.and_true, Bool.and_self, Bool.true_and, AV.b.injEq, decide_eq_true_eq, decide_eq_false_iff_not, true_and, and_true, and_self, reduceCtorEq, imp_self, implies_true, forall_const, eq_self, ex_tp, ex_ag, List.getD_cons_zero, List.getD_cons_succ, List.length_cons, List.length_nil, Nat.reduceAdd, Nat.reduceLT, Nat.zero_add, bne_self_eq_false, decide_true, decide_false, eq_self, true_implies, false_implies, forall_const, Bool.true_eq_false, Bool.not_true, Bool.not_false, not_true_eq_false, not_false_eq_true, if_true, if_false, pickV, cond_true, cond_false, boolV, fillEC, fillE, List.replicate, List.set, Mem.newL, Mem.keep, Int.reduceToNat, Nat.reduceSub, List.drop_zero, Int.reduceLE, Int.le_refl, Nat.sub_zero, Mem.newL, q0, q1, q5, h1, h2, hlt, toNat_nat, b1, b2, b3, b4, hcall, Enc.out, hxn]
        refine ⟨xs.length - (i + 1), by omega, i + 1, x - w (xs[i]), by omega, rfl, rfl, by rw [w64 (by omega) (by omega)]; rfl, by omega, by omega, by rw [ht]; omega, _, _, rfl⟩
    · have hil : i = xs.length := by omega
      subst hil
      simp only [x_q, x_o, x_b, x_k, x_x, x_r, x_it, x_if, x_p, p_nil, p_on, p_off, p_mv, p_pk, p_bn, p_un, p_be, p_nl, p_eqa, p_ci, p_cbs, p_csb, p_ex, p_bd, p_fd, p_ix, p_ixa, p_ss, p_sl, p_sla, p_ln, p_lns, p_lnm, p_al, p_bx, p_lal, p_lbx, p_ld, p_st, p_fa, p_ia, p_iaa, p_bs, p_lbs, p_mk, p_ap, p_cp, p_cl, p_cv, p_mf, p_nc, p_mm, p_mkm, p_lk, p_mu, p_dl, p_rs, p_nx, cfC, lgPut, isOk, rv, rh, Bool.false_eq_true, d_nil, d_on, d_off, d_mv, d_pk, d_bn, d_un, d_be, d_nl, d_eqa, d_ci, d_cbs, d_csb, d_ex, d_bd, d_fd, d_ix, d_ixa, d_ss, d_sl, d_sla, d_ln, d_lns, d_lnm, d_al, d_bx, d_lal, d_lbx, d_ld, d_st, d_fa, d_ia, d_iaa, d_bs, d_lbs, d_mk, d_ap, d_cp, d_cl, d_cv, d_mf, d_nc, d_mm, d_mkm, d_lk, d_mu, d_dl, d_rs, d_nx, okO, vlO, mmO, dsO, putE, args, evT, evs, evO, look, kOps, kSeq, kBlk, keepE, reduceIte, Nat.reduceEqDiff, binC, binV, intC, intV, strC, strV, unC, unV, AV.isI, AV.isB, AV.isS, AV.toI, AV.toK, AV.toS, allOut, o_b, o_i, o_s, o_np, o_pv, o_pe, o_ns, o_sl, o_nm, o_mp, o_nf, o_fn, o_ag, q_b, q_i, q_s, q_np, q_pv, q_pe, q_ns, q_sl, q_nm, q_mp, q_nf, q_fn, q_ag, Bool.and_true, Bool.and_self, Bool.true_and, AV.b.injEq, decide_eq_true_eq, decide_eq_false_iff_not, true_and, and_true, and_self, reduceCtorEq, imp_self, implies_true, forall_const, eq_self, ex_tp, ex_ag, List.getD_cons_zero, List.getD_cons_succ, List.length_cons, List.length_nil, Nat.reduceAdd, Nat.reduceLT, Nat.zero_add, bne_self_eq_false, decide_true, decide_false, eq_self, true_implies, false_implies, forall_const, Bool.true_eq_false, Bool.not_true, Bool.not_false, not_true_eq_false, not_false_eq_true, if_true, if_false, pickV, cond_true, cond_false, boolV, fillEC, fillE, List.replicate, List.set, Mem.newL, Mem.keep, Int.reduceToNat, Nat.reduceSub, List.drop_zero, Int.reduceLE, Int.le_refl, Nat.sub_zero, Mem.newL, q0, q1, q5, h1, h2, hlt, endK, rsC, rsV, resV]
      rw [List.take_length] at hx2
      rw [if_neg (by omega)]
      rw [show left - (xs.length : Int) - (tot' w xs : Nat) = x by omega]
theorem r_eqS {a b : AV} {xs : List α} {H : AH} {z f : Nat} (hz : E.z = z) (hC : T_eq C f E) (h : Sx H E a xs) (h' : Sx H E b xs) (hn : xs.length ≤ 1099511627776) : Runs C (s_eq z f) [a, b] H fun v H' => H' = H ∧ v = .b true := by
  subst hz
  unfold Runs s_eq
  obtain ⟨h1, h2⟩ := h.len
  obtain ⟨h3, h4⟩ := h'.len
  simp only [x_q, x_o, x_b, x_k, x_x, x_r, x_it, x_if, x_p, p_nil, p_on, p_off, p_mv, p_pk, p_bn, p_un, p_be, p_nl, p_eqa, p_ci, p_cbs, p_csb, p_ex, p_bd, p_fd, p_ix, p_ixa, p_ss, p_sl, p_sla, p_ln, p_lns, p_lnm, p_al, p_bx, p_lal, p_lbx, p_ld, p_st, p_fa, p_ia, p_iaa, p_bs, p_lbs, p_mk, p_ap, p_cp, p_cl, p_cv, p_mf, p_nc, p_mm, p_mkm, p_lk, p_mu, p_dl, p_rs, p_nx, cfC, lgPut, isOk, rv, rh, Bool.false_eq_true, d_nil, d_on, d_off, d_mv, d_pk, d_bn, d_un, d_be, d_nl, d_eqa, d_ci, d_cbs, d_csb, d_ex, d_bd, d_fd, d_ix, d_ixa, d_ss, d_sl, d_sla, d_ln, d_lns, d_lnm, d_al, d_bx, d_lal, d_lbx, d_ld, d_st, d_fa, d_ia, d_iaa, d_bs, d_lbs, d_mk, d_ap, d_cp, d_cl, d_cv, d_mf, d_nc, d_mm, d_mkm, d_lk, d_mu, d_dl, d_rs, d_nx, okO, vlO, mmO, dsO, putE, args, evT, evs, evO, look, kOps, kSeq, kBlk, keepE, reduceIte, Nat.reduceEqDiff, binC, binV, intC, intV, strC, strV, unC, unV, AV.isI, AV.isB, AV.isS, AV.toI, AV.toK, AV.toS, allOut, o_b, o_i, o_s, o_np, o_pv, o_pe, o_ns, o_sl, o_nm, o_mp, o_nf, o_fn, o_ag, q_b, q_i, q_s, q_np, q_pv, q_pe, q_ns, q_sl, q_nm, q_mp, q_nf, q_fn, q_ag, Bool.and_true, Bool.and_self, Bool.true_and, AV.b.injEq, decide_eq_true_eq, decide_eq_false_iff_not, true_and, and_true, and_self, reduceCtorEq, imp_self, implies_true, forall_const, eq_self, ex_tp, ex_ag, List.getD_cons_zero, List.getD_cons_succ, List.length_cons, List.length_nil, Nat.reduceAdd, Nat.reduceLT, Nat.zero_add, bne_self_eq_false, decide_true, decide_false, eq_self, true_implies, false_implies, forall_const, Bool.true_eq_false, Bool.not_true, Bool.not_false, not_true_eq_false, not_false_eq_true, if_true, if_false, pickV, cond_true, cond_false, boolV, fillEC, fillE, List.replicate, List.set, Mem.newL, Mem.keep, Int.reduceToNat, Nat.reduceSub, List.drop_zero, Int.reduceLE, Int.le_refl, Nat.sub_zero, Mem.newL, h1, h2, h3, h4]
  refine exec_loop (fun n e M => ∃ i : Nat, i ≤ xs.length ∧ n = xs.length - i ∧ look e 0 = a ∧ look e 1 = b ∧ look e 5 = .i .i64 i ∧ ∃ L g, M = ⟨L, g, H⟩) ?_ (n := xs.length) ⟨0, by omega, by omega, rfl, rfl, rfl, _, _, rfl⟩
  rintro n e M ⟨i, hi, rfl, q0, q1, q5, L, g, rfl⟩
  by_cases hlt : (i : Int) < xs.length
  · have hil : i < xs.length := by omega
    obtain ⟨b1, b2, b3, b4⟩ := h.ia (j := i) (by omega) hlt (keepL [0, 1, 5] L) g hil
    obtain ⟨c1, c2, c3, c4⟩ := h'.ia (j := i) (by omega) hlt (keepL [0, 1, 5] L) g hil
    have hcall := hC xs[i] H
    simp only [toNat_nat] at b3 b4 c3 c4
    simp only [x_q, x_o, x_b, x_k, x_x, x_r, x_it, x_if, x_p, p_nil, p_on, p_off, p_mv, p_pk, p_bn, p_un, p_be, p_nl, p_eqa, p_ci, p_cbs, p_csb, p_ex, p_bd, p_fd, p_ix, p_ixa, p_ss, p_sl, p_sla, p_ln, p_lns, p_lnm, p_al, p_bx, p_lal, p_lbx, p_ld, p_st, p_fa, p_ia, p_iaa, p_bs, p_lbs, p_mk, p_ap, p_cp, p_cl, p_cv, p_mf, p_nc, p_mm, p_mkm, p_lk, p_mu, p_dl, p_rs, p_nx, cfC, lgPut, isOk, rv, rh, Bool.false_eq_true, d_nil, d_on, d_off, d_mv, d_pk, d_bn, d_un, d_be, d_nl, d_eqa, d_ci, d_cbs, d_csb, d_ex, d_bd, d_fd, d_ix, d_ixa, d_ss, d_sl, d_sla, d_ln, d_lns, d_lnm, d_al, d_bx, d_lal, d_lbx, d_ld, d_st, d_fa, d_ia, d_iaa, d_bs, d_lbs, d_mk, d_ap, d_cp, d_cl, d_cv, d_mf, d_nc, d_mm, d_mkm, d_lk, d_mu, d_dl, d_rs, d_nx, okO, vlO, mmO, dsO, putE, args, evT, evs, evO, look, kOps, kSeq, kBlk, keepE, reduceIte, Nat.reduceEqDiff, binC, binV, intC, intV, strC, strV, unC, unV, AV.isI, AV.isB, AV.isS, AV.toI, AV.toK, AV.toS, allOut, o_b, o_i, o_s, o_np, o_pv, o_pe, o_ns, o_sl, o_nm, o_mp, o_nf, o_fn, o_ag, q_b, q_i, q_s, q_np, q_pv, q_pe, q_ns, q_sl, q_nm, q_mp, q_nf, q_fn, q_ag, Bool.and_true, Bool.and_self, Bool.true_and, AV.b.injEq, decide_eq_true_eq, decide_eq_false_iff_not, true_and, and_true, and_self, reduceCtorEq, imp_self, implies_true, forall_const, eq_self, ex_tp, ex_ag, List.getD_cons_zero, List.getD_cons_succ, List.length_cons, List.length_nil, Nat.reduceAdd, Nat.reduceLT, Nat.zero_add, bne_self_eq_false, decide_true, decide_false, eq_self, true_implies, false_implies, forall_const, Bool.true_eq_false, Bool.not_true, Bool.not_false, not_true_eq_false, not_false_eq_true, if_true, if_false, pickV, cond_true, cond_false, boolV, fillEC, fillE, List.replicate, List.set, Mem.newL, Mem.keep, Int.reduceToNat, Nat.reduceSub, List.drop_zero, Int.reduceLE, Int.le_refl, Nat.sub_zero, Mem.newL, q0, q1, q5, h1, h2, hlt, toNat_nat, b1, b2, b3, b4, c1, c2, c3, c4, hcall, Enc.out]
    exact ⟨xs.length - (i + 1), by omega, i + 1, by omega, rfl, by rw [w64 (by omega) (by omega)]; rfl, _, _, rfl⟩
  · simp only [x_q, x_o, x_b, x_k, x_x, x_r, x_it, x_if, x_p, p_nil, p_on, p_off, p_mv, p_pk, p_bn, p_un, p_be, p_nl, p_eqa, p_ci, p_cbs, p_csb, p_ex, p_bd, p_fd, p_ix, p_ixa, p_ss, p_sl, p_sla, p_ln, p_lns, p_lnm, p_al, p_bx, p_lal, p_lbx, p_ld, p_st, p_fa, p_ia, p_iaa, p_bs, p_lbs, p_mk, p_ap, p_cp, p_cl, p_cv, p_mf, p_nc, p_mm, p_mkm, p_lk, p_mu, p_dl, p_rs, p_nx, cfC, lgPut, isOk, rv, rh, Bool.false_eq_true, d_nil, d_on, d_off, d_mv, d_pk, d_bn, d_un, d_be, d_nl, d_eqa, d_ci, d_cbs, d_csb, d_ex, d_bd, d_fd, d_ix, d_ixa, d_ss, d_sl, d_sla, d_ln, d_lns, d_lnm, d_al, d_bx, d_lal, d_lbx, d_ld, d_st, d_fa, d_ia, d_iaa, d_bs, d_lbs, d_mk, d_ap, d_cp, d_cl, d_cv, d_mf, d_nc, d_mm, d_mkm, d_lk, d_mu, d_dl, d_rs, d_nx, okO, vlO, mmO, dsO, putE, args, evT, evs, evO, look, kOps, kSeq, kBlk, keepE, reduceIte, Nat.reduceEqDiff, binC, binV, intC, intV, strC, strV, unC, unV, AV.isI, AV.isB, AV.isS, AV.toI, AV.toK, AV.toS, allOut, o_b, o_i, o_s, o_np, o_pv, o_pe, o_ns, o_sl, o_nm, o_mp, o_nf, o_fn, o_ag, q_b, q_i, q_s, q_np, q_pv, q_pe, q_ns, q_sl, q_nm, q_mp, q_nf, q_fn, q_ag, Bool.and_true, Bool.and_self, Bool.true_and, AV.b.injEq, decide_eq_true_eq, decide_eq_false_iff_not, true_and, and_true, and_self, reduceCtorEq, imp_self, implies_true, forall_const, eq_self, ex_tp, ex_ag, List.getD_cons_zero, List.getD_cons_succ, List.length_cons, List.length_nil, Nat.reduceAdd, Nat.reduceLT, Nat.zero_add, bne_self_eq_false, decide_true, decide_false, eq_self, true_implies, false_implies, forall_const, Bool.true_eq_false, Bool.not_true, Bool.not_false, not_true_eq_false, not_false_eq_true, if_true, if_false, pickV, cond_true, cond_false, boolV, fillEC, fillE, List.replicate, List.set, Mem.newL, Mem.keep, Int.reduceToNat, Nat.reduceSub, List.drop_zero, Int.reduceLE, Int.le_refl, Nat.sub_zero, Mem.newL, q0, q1, q5, h1, h2, hlt, endK, rsC, rsV, resV]
theorem r_toS {a : AV} {xs : List α} {H : AH} {z by' f : Nat} {zero : List AV} (hz : E.z = z) (h0 : zero.length = z) (hC : T_to C f E) (h : Sx H E a xs) (hb : by' ≤ 1024) (hn : xs.length ≤ 137438953472) : Runs C (s_to z by' f (.ag zero)) [a] H fun v H' => Ext H H' ∧ Mx H' E v xs ∧ ∀ i, i ∈ idA v → H.n ≤ i := by
  subst hz
  unfold Runs s_to
  obtain ⟨h1, h2⟩ := h.len
  have hby : (xs.length : Int) * by' ≤ 281474976710656 := by
    have h3 : (xs.length : Int) * by' ≤ xs.length * 1024 := Int.mul_le_mul_of_nonneg_left (by omega) (by omega)
    omega
  simp only [x_q, x_o, x_b, x_k, x_x, x_r, x_i, x_p, doPs, cfC, lgPut, isOk, rv, rh, Bool.false_eq_true, doOs, okO, vlO, mmO, dsO, putE, args, evT, evs, evO, look, kOps, kSeq, kBlk, keepE, reduceIte, Nat.reduceEqDiff, binC, binV, intC, intV, strC, strV, unC, unV, AV.isI, AV.isB, AV.isS, AV.toI, AV.toK, AV.toS, allOut, o_b, o_i, o_s, o_np, o_pv, o_pe, o_ns, o_sl, o_nm, o_mp, o_nf, o_fn, o_ag, q_b, q_i, q_s, q_np, q_pv, q_pe, q_ns, q_sl, q_nm, q_mp, q_nf, q_fn, q_ag, Bool.and_true, Bool.and_self, Bool.true_and, AV.b.injEq, decide_eq_true_eq, decide_eq_false_iff_not, true_and, and_true, and_self, decide_true, decide_false, eq_self, true_implies, false_implies, forall_const, Bool.true_eq_false, Bool.not_true, Bool.not_false, not_true_eq_false, not_false_eq_true, if_true, if_false, pickV, cond_true, cond_false, boolV, fillEC, fillE, List.replicate, List.set, Mem.newL, Mem.keep, Int.reduceToNat, Nat.reduceSub, List.drop_zero, Int.reduceLE, Int.le_refl, Nat.sub_zero, Mem.newL, h1, h2]
  have hm0 : Mn (H.new (.arr true 0 E.z (List.replicate xs.length (.ag zero)))) E.z (.sl H.n 0 xs.length) (List.replicate xs.length (.ag zero)) := by
    have := Mn.own (H := H.new (.arr true 0 E.z (List.replicate xs.length (.ag zero)))) (z := E.z) (by simp) new_at
    rwa [List.length_replicate] at this
  refine ⟨⟨by omega, hby, by omega⟩, exec_loop (fun n e M => ∃ i : Nat, i ≤ xs.length ∧ n = xs.length - i ∧ look e 0 = a ∧ look e 3 = .sl H.n 0 xs.length ∧ look e 4 = .i .i64 i ∧ ∃ L g H', M = ⟨L, g, H'⟩ ∧ Ext H H' ∧ Mn H' E.z (.sl H.n 0 xs.length) (((xs.map E.v).take i) ++ List.replicate (xs.length - i) (.ag zero))) ?_ (n := xs.length) ⟨0, by omega, by omega, rfl, rfl, rfl, _, _, _, rfl, .new _ _, by simpa [toNat_nat] using hm0⟩⟩
  rintro n e M ⟨i, hi, rfl, q0, q3, q4, L, g, H', rfl, he, hm⟩
  by_cases hlt : (i : Int) < xs.length
  · have hil : i < xs.length := by omega
    obtain ⟨b1, b2, b3, b4⟩ := Sx.ia (Sl.ext h he) (j := i) (by omega) hlt (keepL [0, 3, 4] L) g hil
    have hcall := hC xs[i] H'
    have hlen : (((xs.map E.v).take i) ++ List.replicate (xs.length - i) (AV.ag zero)).length = xs.length := by simp; omega
    have hget : (((xs.map E.v).take i) ++ List.replicate (xs.length - i) (AV.ag zero)).getD i .u = .ag zero := by
      simp only [List.getD]
      rw [List.getElem?_append_right (by simp; omega), List.getElem?_replicate, if_pos (by simp; omega)]
      rfl
    obtain ⟨d1, d2, -, -⟩ := (Mn.sl hm).ia (j := i) (by omega) (by rw [hlen]; exact hlt)
    obtain ⟨c3, H2, c4, c5, c6, c7⟩ := hm.st (j := i) (by omega) (by rw [hlen]; exact hlt) (v := E.v xs[i]) (off := 0) (by rw [toNat_nat, hget, Enc.cells]; simp [AV.cells, h0]) (keepL [0, 3, 4] L) g
    rw [fa0] at c3 c4
    rw [toNat_nat, hget] at c5
    have e1 : setEl (AV.ag zero) 0 (E.v xs[i]) = E.v xs[i] := by
      simp only [setEl, setPart, List.take_zero, List.nil_append, Nat.zero_add, Enc.cells]
      rw [List.drop_of_length_le (by omega), List.append_nil]
      rfl
    have e2 : (xs.map E.v).getD i .u = E.v xs[i] := enc_at hil
    have e3 := take_rep_set (l := xs.map E.v) (i := i) (z := AV.ag zero) (d := .u) (by simpa using hil)
    rw [e2, List.length_map] at e3
    rw [e1, e3] at c5
    simp only [toNat_nat] at b3 b4 c3 c4
    simp only [x_q, x_o, x_b, x_k, x_x, x_r, x_it, x_if, x_p, p_nil, p_on, p_off, p_mv, p_pk, p_bn, p_un, p_be, p_nl, p_eqa, p_ci, p_cbs, p_csb, p_ex, p_bd, p_fd, p_ix, p_ixa, p_ss, p_sl, p_sla, p_ln, p_lns, p_lnm, p_al, p_bx, p_lal, p_lbx, p_ld, p_st, p_fa, p_ia, p_iaa, p_bs, p_lbs, p_mk, p_ap, p_cp, p_cl, p_cv, p_mf, p_nc, p_mm, p_mkm, p_lk, p_mu, p_dl, p_rs, p_nx, cfC, lgPut, isOk, rv, rh, Bool.false_eq_true, d_nil, d_on, d_off, d_mv, d_pk, d_bn, d_un, d_be, d_nl, d_eqa, d_ci, d_cbs, d_csb, d_ex, d_bd, d_fd, d_ix, d_ixa, d_ss, d_sl, d_sla, d_ln, d_lns, d_lnm, d_al, d_bx, d_lal, d_lbx, d_ld, d_st, d_fa, d_ia, d_iaa, d_bs, d_lbs, d_mk, d_ap, d_cp, d_cl, d_cv, d_mf, d_nc, d_mm, d_mkm, d_lk, d_mu, d_dl, d_rs, d_nx, okO, vlO, mmO, dsO, putE, args, evT, evs, evO, look, kOps, kSeq, kBlk, keepE, reduceIte, Nat.reduceEqDiff, binC, binV, intC, intV, strC, strV, unC, unV, AV.isI, AV.isB, AV.isS, AV.toI, AV.toK, AV.toS, allOut, o_b, o_i, o_s, o_np, o_pv, o_pe, o_ns, o_sl, o_nm, o_mp, o_nf, o_fn, o_ag, q_b, q_i, q_s, q_np, q_pv, q_pe, q_ns, q_sl, q_nm, q_mp, q_nf, q_fn, q_ag, Bool.and_true, Bool.and_self, Bool.true_and, AV.b.injEq, decide_eq_true_eq, decide_eq_false_iff_not, true_and, and_true, and_self, reduceCtorEq, imp_self, implies_true, forall_const, eq_self, ex_tp, ex_ag, List.getD_cons_zero, List.getD_cons_succ, List.length_cons, List.length_nil, Nat.reduceAdd, Nat.reduceLT, Nat.zero_add, bne_self_eq_false, decide_true, decide_false, eq_self, true_implies, false_implies, forall_const, Bool.true_eq_false, Bool.not_true, Bool.not_false, not_true_eq_false, not_false_eq_true, if_true, if_false, pickV, cond_true, cond_false, boolV, fillEC, fillE, List.replicate, List.set, Mem.newL, Mem.keep, Int.reduceToNat, Nat.reduceSub, List.drop_zero, Int.reduceLE, Int.le_refl, Nat.sub_zero, Mem.newL, q0, q3, q4, h1, h2, hlt, toNat_nat, b1, b2, b3, b4, hcall, Enc.out, Enc.cells, c3, c4, d1, d2, Mem.keep]
    exact ⟨xs.length - (i + 1), by omega, i + 1, by omega, rfl, by rw [w64 (by omega) (by omega)]; rfl, _, _, H2, rfl, he.put (l := [H.n]) (by simp) (Nat.le_of_eq c6.symm) (fun j _ hj => c7 j hj), c5⟩
  · have hil : i = xs.length := by omega
    subst hil
    simp only [x_q, x_o, x_b, x_k, x_x, x_r, x_it, x_if, x_p, p_nil, p_on, p_off, p_mv, p_pk, p_bn, p_un, p_be, p_nl, p_eqa, p_ci, p_cbs, p_csb, p_ex, p_bd, p_fd, p_ix, p_ixa, p_ss, p_sl, p_sla, p_ln, p_lns, p_lnm, p_al, p_bx, p_lal, p_lbx, p_ld, p_st, p_fa, p_ia, p_iaa, p_bs, p_lbs, p_mk, p_ap, p_cp, p_cl, p_cv, p_mf, p_nc, p_mm, p_mkm, p_lk, p_mu, p_dl, p_rs, p_nx, cfC, lgPut, isOk, rv, rh, Bool.false_eq_true, d_nil, d_on, d_off, d_mv, d_pk, d_bn, d_un, d_be, d_nl, d_eqa, d_ci, d_cbs, d_csb, d_ex, d_bd, d_fd, d_ix, d_ixa, d_ss, d_sl, d_sla, d_ln, d_lns, d_lnm, d_al, d_bx, d_lal, d_lbx, d_ld, d_st, d_fa, d_ia, d_iaa, d_bs, d_lbs, d_mk, d_ap, d_cp, d_cl, d_cv, d_mf, d_nc, d_mm, d_mkm, d_lk, d_mu, d_dl, d_rs, d_nx, okO, vlO, mmO, dsO, putE, args, evT, evs, evO, look, kOps, kSeq, kBlk, keepE, reduceIte, Nat.reduceEqDiff, binC, binV, intC, intV, strC, strV, unC, unV, AV.isI, AV.isB, AV.isS, AV.toI, AV.toK, AV.toS, allOut, o_b, o_i, o_s, o_np, o_pv, o_pe, o_ns, o_sl, o_nm, o_mp, o_nf, o_fn, o_ag, q_b, q_i, q_s, q_np, q_pv, q_pe, q_ns, q_sl, q_nm, q_mp, q_nf, q_fn, q_ag, Bool.and_true, Bool.and_self, Bool.true_and, AV.b.injEq, decide_eq_true_eq, decide_eq_false_iff_not, true_and, and_true, and_self, reduceCtorEq, imp_self, implies_true, forall_const, eq_self, ex_tp, ex_ag, List.getD_cons_zero, List.getD_cons_succ, List.length_cons, List.length_nil, Nat.reduceAdd, Nat.reduceLT, Nat.zero_add, bne_self_eq_false, decide_true, decide_false, eq_self, true_implies, false_implies, forall_const, Bool.true_eq_false, Bool.not_true, Bool.not_false, not_true_eq_false, not_false_eq_true, if_true, if_false, pickV, cond_true, cond_false, boolV, fillEC, fillE, List.replicate, List.set, Mem.newL, Mem.keep, Int.reduceToNat, Nat.reduceSub, List.drop_zero, Int.reduceLE, Int.le_refl, Nat.sub_zero, Mem.newL, q0, q3, q4, h1, h2, hlt, endK, rsC, rsV, resV, Mem.keep]
    refine ⟨he, ?_, by simp [idA]⟩
    have hm2 := hm
    rw [Nat.sub_self, List.replicate_zero, List.append_nil, List.take_of_length_le (by simp)] at hm2
    exact hm2
end
end Go.Vm

/- Tables of functions by levels of calls; opening arguments: rows of flat values, and structs of these. -/
namespace Go.Vm
set_option linter.unusedVariables false
set_option linter.unusedSimpArgs false
/-! Tables. -/
def lkF : List (Nat × Fn) → Nat → Option Fn
  | [], _ => none
  | p :: r, n => if p.1 = n then some p.2 else lkF r n
def AllK (P : Program) : List (Nat × Fn) → Prop
  | [] => True
  | p :: r => chkF P p.2 p.1 = true ∧ AllK P r
theorem AllK.lk {P : Program} {n : Nat} {F : Fn} : ∀ {l : List (Nat × Fn)}, AllK P l → lkF l n = some F → chkF P F n = true
  | [], _, h => by cases h
  | p :: r, ⟨h1, h2⟩, h => by
    unfold lkF at h
    split at h
    · rename_i e
      cases h; subst e; exact h1
    · exact AllK.lk h2 h
noncomputable def tabK (l : List (Nat × Fn)) : Nat → Tab
  | 0 => fun _ _ _ => none
  | k + 1 => fun n => match lkF l n with
    | some F => ent (tabK l k) F
    | none => fun _ _ => none
theorem tabK_at {l : List (Nat × Fn)} {k n : Nat} {F : Fn} (h : lkF l n = some F) : tabK l (k + 1) n = ent (tabK l k) F := by
  show (match lkF l n with
    | some F => ent (tabK l k) F
    | none => fun _ _ => none) = _
  rw [h]
theorem tabK_ok {P : Program} {l : List (Nat × Fn)} (hl : AllK P l) (hmx : P.follows .mixedOrders = true) : ∀ k, TabOK P (tabK l k)
  | 0 => TabOK.none
  | k + 1 => fun f vs H v H' h => by
    cases e : lkF l f with
    | none =>
      have : tabK l (k + 1) f vs H = none := by
        show (match lkF l f with
          | some F => ent (tabK l k) F
          | none => fun _ _ => none) vs H = none
        rw [e]
      rw [this] at h; cases h
    | some F =>
      have h1 := ent_ok (tabK_ok hl hmx k) hmx (hl.lk e)
      refine h1 f vs H v H' ?_
      unfold Vm.ext
      rw [if_pos rfl, ← tabK_at e]
      exact h
theorem tabK_run {l : List (Nat × Fn)} {k n : Nat} {F : Fn} {G : AV → AH → Prop} {vs : List AV} {H : AH} (e : lkF l n = some F) (h : Runs (tabK l k) F vs H G) : ∃ v H', tabK l (k + 1) n vs H = some (v, H') ∧ G v H' := by
  have := ent_spec (f := n) h
  rw [tabK_at e]
  unfold Vm.ext at this
  simpa using this
theorem tabK_eq {l : List (Nat × Fn)} {k n : Nat} {F : Fn} {vs : List AV} {H : AH} {r : AV} (e : lkF l n = some F) (h : Runs (tabK l k) F vs H fun v H' => H' = H ∧ v = r) : tabK l (k + 1) n vs H = some (r, H) := by
  obtain ⟨v, H', h1, rfl, rfl⟩ := tabK_run e h
  exact h1

/-! Flat values. -/
def flatFs (P : Program) (g : TypeId → Option (List Ck)) : Nat → List Field → Option (List Ck)
  | _, [] => some []
  | off, f :: r => match g f.type with
    | some ks => if f.offset = off ∧ P.cellsOf f.type = ks.length then (match flatFs P g (off + ks.length) r with
      | some q => some (ks ++ q)
      | none => none) else none
    | none => none
def flatTy (P : Program) : Nat → TypeId → Option (List Ck)
  | 0, _ => none
  | n + 1, t => match P.underlying t with
    | some .bool => some [.b]
    | some .string => some [.s]
    | some (.int k) => some [.i k]
    | some (.struct fs) => match flatFs P (flatTy P n) 0 fs.toList with
      | some ks => if P.cellsOf t = ks.length then some ks else none
      | none => none
    | _ => none
/-- A cell that is read: of its kind, and no greater than values are. -/
def atomOk : Ck → AV → Prop
  | .b, a => ∃ x, a = .b x
  | .s, a => ∃ l, a = .s l ∧ l.length ≤ 9223372036854775807
  | .i k, a => ∃ n, a = .i k n ∧ k.min ≤ n ∧ n ≤ k.max
def atomsOk : List Ck → List AV → Prop
  | [], [] => True
  | k :: q, a :: r => atomOk k a ∧ atomsOk q r
  | _, _ => False
theorem atomsOk.len : ∀ {ks : List Ck} {us : List AV}, atomsOk ks us → us.length = ks.length
  | [], [], _ => rfl
  | _ :: _, _ :: _, h => by simp [h.2.len]
  | [], _ :: _, h => h.elim
  | _ :: _, [], h => h.elim
theorem atomsOk.app : ∀ {ks q : List Ck} {us r : List AV}, atomsOk ks us → atomsOk q r → atomsOk (ks ++ q) (us ++ r)
  | [], _, [], _, _, h => h
  | _ :: _, _, _ :: _, _, h, h' => ⟨h.1, h.2.app h'⟩
  | [], _, _ :: _, _, h, _ => h.elim
  | _ :: _, _, [], _, h, _ => h.elim
section
variable {H : Type} {enc : TypeId × Value → H} {P : Program} {w : World}
theorem flatFs_open {g : TypeId → Option (List Ck)} {trd : TypeId → List Value → Option (DataW H × List MemPlace)}
    (hg : ∀ t ks cs z, g t = some ks → trd t cs = some z → ∃ us, atomsOk ks us ∧ ∀ ρ, All2 (VA ρ) us cs) : ∀ {fs : List Field} {off : Nat} {ks : List Ck} {cs : List Value} , flatFs P g off fs = some ks → cs.length = off + ks.length →
    (∀ f, f ∈ fs → ∃ z, trd f.type ((cs.drop f.offset).take (P.cellsOf f.type)) = some z) → ∃ us, atomsOk ks us ∧ ∀ ρ, All2 (VA ρ) us (cs.drop off)
  | [], off, ks, cs, h, hl, _ => by
    cases h
    exact ⟨[], trivial, fun ρ => by rw [List.drop_of_length_le (by simp at hl; omega)]; trivial⟩
  | f :: r, off, ks, cs, h, hl, hf => by
    unfold flatFs at h
    split at h
    · rename_i k1 e1
      split at h
      · rename_i e2
        split at h
        · rename_i q e3
          cases h
          obtain ⟨z, hz⟩ := hf f (by simp)
          obtain ⟨us, h1, h2⟩ := hg _ _ _ _ e1 hz
          obtain ⟨bs, h3, h4⟩ := flatFs_open hg e3 (cs := cs) (by rw [hl]; simp; omega) (fun f' hf' => hf f' (by simp [hf']))
          refine ⟨us ++ bs, h1.app h3, fun ρ => ?_⟩
          have h5 := h2 ρ
          rw [e2.1, e2.2] at h5
          have := All2.append h5 (h4 ρ)
          rwa [← List.drop_drop, List.take_append_drop] at this
        · cases h
      · cases h
    · cases h
theorem flat_open : ∀ {n : Nat} {t : TypeId} {ks : List Ck} {fuel : Nat} {cs : List Value} {z : DataW H × List MemPlace}, flatTy P n t = some ks → DataW.trod enc P w 0 (fun _ => true) true fuel t cs = some z → ∃ us, atomsOk ks us ∧ ∀ ρ, All2 (VA ρ) us cs
  | 0, _, _, _, _, _, h, _ => by cases h
  | n + 1, t, ks, fuel, cs, z, h, hz => by
    unfold flatTy at h
    split at h
    · rename_i e
      cases h
      obtain ⟨b, rfl, -⟩ := DataW.trod_bool e hz
      exact ⟨[.b b], ⟨⟨b, rfl⟩, trivial⟩, fun ρ => ⟨rfl, trivial⟩⟩
    · rename_i e
      cases h
      obtain ⟨s, rfl, -, hs⟩ := DataW.trod_string e hz
      have hs' : s.data.size ≤ maxLen := hs
      refine ⟨[.s s.data.toList], ⟨⟨_, rfl, ?_⟩, trivial⟩, fun ρ => ⟨(show VP ρ (.s s.data.toList) _ from rfl), trivial⟩⟩
      simp only [Array.length_toList]
      unfold maxLen at hs'
      omega
    · rename_i k e
      cases h
      obtain ⟨m, rfl, -, hs⟩ := DataW.trod_int e hz
      refine ⟨[.i k m], ⟨⟨m, rfl, ?_⟩, trivial⟩, fun ρ => ⟨rfl, trivial⟩⟩
      simpa [Lit.wf] using hs
    · rename_i fs e
      split at h
      · rename_i ks' e1
        split at h
        · rename_i e2
          cases h
          obtain ⟨xs, m, -, -, h1, h2, h3⟩ := DataW.trod_struct e hz
          have := flatFs_open (P := P) (g := flatTy P n) (trd := fun t cs => DataW.trod enc P w 0 (fun _ => true) true m t cs) (fun t ks cs z h h' => flat_open h h') (cs := cs) e1 (by omega) (fun f hf => by
            obtain ⟨i, hi⟩ := List.getElem?_of_mem hf
            have hi' : fs[i]? = some f := by simpa using hi
            have hlt := (Array.getElem?_eq_some_iff.1 hi').1
            exact ⟨xs[i], by rw [h3 i f hi']; simp⟩)
          simpa using this
        · cases h
      · cases h
    · cases h
/-! A row of flat values. -/
theorem rows_flat {α : Type} {E : Enc α} {pre : α → Prop} {ρ : Rn} {cl : List Value} : ∀ (len off : Nat), off + len * E.z ≤ cl.length →
    (∀ i, i < len → ∃ x, pre x ∧ All2 (VA ρ) (E.fn x) ((cl.drop (off + i * E.z)).take E.z)) → ∃ l : List α, l.length = len ∧ (∀ x, x ∈ l → pre x) ∧ All2 (VA ρ) (flat (l.map E.v)) ((cl.drop off).take (len * E.z))
  | 0, off, _, _ => ⟨[], rfl, by simp, by simp [flat, All2]⟩
  | len + 1, off, hl, h => by
    obtain ⟨x, hx, h1⟩ := h 0 (by omega)
    rw [Nat.zero_mul, Nat.add_zero] at h1
    have e1 : (len + 1) * E.z = E.z + len * E.z := by rw [Nat.add_mul, Nat.one_mul, Nat.add_comm]
    obtain ⟨l, h2, h3, h4⟩ := rows_flat (E := E) (ρ := ρ) (cl := cl) (pre := pre) len (off + E.z) (by omega) (fun i hi => by
      have := h (i + 1) (by omega)
      rwa [Nat.add_mul, Nat.one_mul, ← Nat.add_assoc, Nat.add_right_comm] at this)
    refine ⟨x :: l, by simp [h2], fun y hy => (List.mem_cons.1 hy).elim (fun e => e ▸ hx) (h3 y), ?_⟩
    rw [e1, List.map_cons]
    show All2 (VA ρ) ((E.v x).cells ++ flat (l.map E.v)) _
    rw [List.take_add, List.drop_drop]
    exact All2.append h1 h4
theorem cells_at {b o n : Nat} {vals : List Value} {c : Array Value} {ty : TypeId} {fz : Nat × Nat} (hb : w.heap[b]? = some (.cells c ty fz)) (h : w.cells? 0 ⟨b, o, none⟩ n = some vals) (hn : 0 < n) : vals = (c.toList.drop o).take n ∧ o + n ≤ c.size := by
  obtain ⟨-, h1, h2⟩ := World.cells?_some h
  have hs : o + n ≤ c.size := by
    have h3 := h2 (n - 1) (by omega)
    rw [add_eq, cell_row hb, List.getElem?_eq_getElem (by omega)] at h3
    have := (Array.getElem?_eq_some_iff.1 h3).1
    omega
  refine ⟨List.ext_getElem? fun i => ?_, hs⟩
  by_cases hi : i < n
  · have h3 := h2 i hi
    rw [add_eq, cell_row hb] at h3
    rw [← h3, List.getElem?_take, if_pos hi, List.getElem?_drop]
    simp
  · rw [List.getElem?_eq_none (by omega), List.getElem?_eq_none (by simp; omega)]
theorem Fst.slice {α : Type} {E : Enc α} {pre : α → Prop} {base : Nat} {ρ : Rn} {H0 : AH} (F : Fst P ρ H0 w) {t e : TypeId} (ht : P.underlying t = some (.slice e)) (hce : P.cellsOf e = E.z) (hz : 0 < E.z)
    (hel : ∀ n vals z, DataW.trod enc P w 0 (fun _ => true) true n e vals = some z → ∃ x : α, pre x ∧ ∀ ρ, All2 (VA ρ) (E.fn x) vals) {fuel : Nat} {v : Value} {y : DataW H × List MemPlace}
    (hval : Cell.okWide P w .any base t v) (hd : DataW.trod enc P w 0 (fun _ => true) true fuel t [v] = some y) : ∃ ρ' H' a l, Fst P ρ' H' w ∧ ρ.Le ρ' ∧ Ext H0 H' ∧ VP ρ' a v ∧ Sx H' E a l ∧ l.length ≤ 9223372036854775807 ∧ ∀ x, x ∈ l → pre x := by
  rcases DataW.trod_slice ht hd with ⟨h1, -⟩ | ⟨ad, len, cap, elems, rest, n, -, h2, -, -, h5, h6, h7, h8, h9, -⟩
  · cases h1
    exact ⟨ρ, H0, .ns, [], F, .refl ρ, .refl H0, (show VP ρ .ns _ from rfl), Sl.nil, by simp, by simp⟩
  · have hv := List.singleton_inj.1 h2
    subst hv
    simp only [Cell.okWide, ht, Cell.ok] at hval
    obtain ⟨-, -, -, hsp, row, cells, hsh, -⟩ := hval
    obtain ⟨b, off, spot⟩ := ad
    have hsp' : spot = none := hsp
    subst hsp'
    have hsh' : w.shape? b = some (row, cells) := hsh
    obtain ⟨c, ty, fz, hb⟩ : ∃ c ty fz, w.heap[b]? = some (.cells c ty fz) := by
      unfold World.shape? at hsh'
      split at hsh'
      · rename_i c ty fz hb; exact ⟨c, ty, fz, hb⟩
      · cases hsh'
    rw [hce] at h8 h9
    simp only [add_eq] at h8 h9
    have key : ∀ o z, (w.cells? 0 ⟨b, o, none⟩ E.z).bind (DataW.trod enc P w 0 (fun _ => true) true n e) = some z → (∃ x : α, pre x ∧ ∀ ρ, All2 (VA ρ) (E.fn x) ((c.toList.drop o).take E.z)) ∧ o + E.z ≤ c.size := by
      intro o z hzz
      cases hc : w.cells? 0 ⟨b, o, none⟩ E.z with
      | none => rw [hc] at hzz; cases hzz
      | some vals =>
        rw [hc] at hzz
        obtain ⟨k1, k2⟩ := cells_at hb hc hz
        subst k1
        exact ⟨hel _ _ _ hzz, k2⟩
    have hcell : ∀ i, i < cap → (∃ x : α, pre x ∧ ∀ ρ, All2 (VA ρ) (E.fn x) ((c.toList.drop (off + i * E.z)).take E.z)) ∧ off + i * E.z + E.z ≤ c.size := by
      intro i hi
      rcases Nat.lt_or_ge i len with hl | hl
      · exact key _ _ ((h8 i hl).trans (List.getElem?_eq_getElem (by omega)))
      · obtain ⟨h10, h11⟩ := h9 trivial
        have := h11 (i - len) (by omega)
        rw [show len + (i - len) = i by omega] at this
        exact key _ _ (this.trans (List.getElem?_eq_getElem (by omega)))
    have hsz : cap = 0 ∨ off + cap * E.z ≤ c.size := by
      rcases Nat.eq_zero_or_pos cap with h | h
      · exact .inl h
      · have := (hcell (cap - 1) (by omega)).2
        have e : cap * E.z = (cap - 1) * E.z + E.z := by
          conv => lhs; rw [show cap = (cap - 1) + 1 by omega]
          rw [Nat.add_mul, Nat.one_mul]
        exact .inr (by omega)
    have hml : len ≤ 9223372036854775807 := by unfold maxLen at h6; omega
    by_cases hl0 : len = 0
    · subst hl0
      have ho : ∃ o, o ≤ c.size ∧ (off = o ∨ cap = 0) := by
        rcases hsz with h | h
        · exact ⟨0, Nat.zero_le _, .inr h⟩
        · exact ⟨off, by omega, .inl rfl⟩
      obtain ⟨o, ho1, ho2⟩ := ho
      obtain ⟨F', hle⟩ := F.row (o := o) (z := E.z) (xs := []) hb (by simp) (by simpa using ho1) (by simp [flat, All2])
      refine ⟨_, _, .sl H0.n 0 0, [], F', hle, .new _ _, ?_, ?_, by simp, by simp⟩
      · exact ⟨⟨b, o, E.z, 0, 0, c.size⟩, by simp [Rn.addP], Nat.le_refl _, Nat.le_refl _, off, cap, h5, by rcases ho2 with h | h <;> simp [h], by simpa using hsz, rfl⟩
      · exact Sl.sl (els := []) (by simp) new_at (by simp) rfl (by simp)
    · have hsz' : off + cap * E.z ≤ c.size := hsz.resolve_left (by omega)
      have hlc : len * E.z ≤ cap * E.z := Nat.mul_le_mul_right _ h5
      obtain ⟨l, hlen, hpre, hrel⟩ := rows_flat (E := E) (pre := pre) (ρ := ρ) (cl := c.toList) len off (by simp; omega) (fun i hi => by
        obtain ⟨x, hx, hx'⟩ := (hcell i (by omega)).1
        exact ⟨x, hx, hx' ρ⟩)
      obtain ⟨F', hle⟩ := F.row (o := off) (z := E.z) (xs := l.map E.v) hb (fun x hx => by
        obtain ⟨y, -, rfl⟩ := List.mem_map.1 hx
        exact Enc.cells y) (by rw [List.length_map, hlen]; omega) (by rw [List.length_map, hlen]; exact hrel)
      refine ⟨_, _, .sl H0.n 0 len, l, F', hle, .new _ _, ?_, ?_, by omega, hpre⟩
      · exact ⟨⟨b, off, E.z, 0, (l.map E.v).length, c.size⟩, by simp [Rn.addP], Nat.le_refl _, by simp [hlen], off, cap, h5, .inl (by simp), by simpa using hsz, rfl⟩
      · have := Sl.sl (H := H0.new (.arr false 0 E.z (l.map E.v))) (z := E.z) (id := H0.n) (ix := 0) (els := l.map E.v) (by simp) new_at (by simp) (by rw [List.drop_zero, List.take_length]) (by simp)
        rwa [List.length_map, hlen] at this
end
end Go.Vm

/- A function that gives a row it made: at its end the elder places of the row are let go, so that its parts may be told. -/
namespace Go.Vm
set_option linter.unusedVariables false
set_option linter.unusedSimpArgs false
def Rn.only (ρ : Rn) (id : Nat) (p : Pl) : Rn := { ρ with pl := fun i => if i = id then [p] else ρ.pl i }
section
variable {ρ ρ0 : Rn} {id : Nat} {p : Pl}
theorem VP.only {a : AV} {v v0 : Value} (h0 : ρ0.pl id = []) (hv0 : VP ρ0 a v0) (h : VP ρ a v) : VP (ρ.only id p) a v := by
  have key : ∀ j q q0, q0 ∈ ρ0.pl j → q ∈ ρ.pl j → q ∈ (ρ.only id p).pl j := fun j q q0 hq0 hq => by
    simp only [Rn.only]
    by_cases e : j = id
    · rw [e, h0] at hq0; cases hq0
    · rwa [if_neg e]
  cases a <;> try exact h
  case pv j off => obtain ⟨q0, hq0, -⟩ := hv0; obtain ⟨q, hq, hr⟩ := h; exact ⟨q, key j q q0 hq0 hq, hr⟩
  case pe j ix off ext => obtain ⟨q0, hq0, -⟩ := hv0; obtain ⟨q, hq, hr⟩ := h; exact ⟨q, key j q q0 hq0 hq, hr⟩
  case sl j ix len => obtain ⟨q0, hq0, -⟩ := hv0; obtain ⟨q, hq, hr⟩ := h; exact ⟨q, key j q q0 hq0 hq, hr⟩
theorem VA.only {a : AV} {v v0 : Value} (h0 : ρ0.pl id = []) (hv0 : VA ρ0 a v0) (h : VA ρ a v) : VA (ρ.only id p) a v := by
  cases a
  case fn f caps =>
    obtain ⟨rc, e, hc⟩ := h
    obtain ⟨rc0, e0, hc0⟩ := hv0
    exact ⟨rc, e, All2.imp_mem (fun x y hx hxy => by
      obtain ⟨y0, hy0⟩ := hc0.ex x hx
      exact VP.only h0 hy0 hxy) hc⟩
  all_goals (simp only [VA] at hv0 h ⊢; exact VP.only h0 hv0 h)
theorem V1.only {a : AV} {v v0 : Value} (h0 : ρ0.pl id = []) (hv0 : V1 ρ0 a v0) (h : V1 ρ a v) : V1 (ρ.only id p) a v := by
  cases a
  case ag xs =>
    obtain ⟨rc, e, hc⟩ := h
    obtain ⟨rc0, e0, hc0⟩ := hv0
    exact ⟨rc, e, All2.imp_mem (fun x y hx hxy => by
      obtain ⟨y0, hy0⟩ := hc0.ex x hx
      exact VA.only h0 hy0 hxy) hc⟩
  all_goals (simp only [V1] at hv0 h ⊢; exact VA.only h0 hv0 h)
theorem mem_flat {x : AV} : ∀ {l : List AV}, x ∈ flat l ↔ ∃ a, a ∈ l ∧ x ∈ a.cells
  | [] => by simp [flat]
  | a :: r => by simp [flat, mem_flat (l := r)]
theorem mem_told {x : AV} {q : Pl} {xs : List AV} (h : x ∈ flat (told q xs)) : x ∈ flat xs := by
  obtain ⟨a, h1, h2⟩ := mem_flat.1 h
  exact mem_flat.2 ⟨a, List.mem_of_mem_take (List.mem_of_mem_drop h1), h2⟩
theorem Valid.only {w : World} {q : Pl} {xs : List AV} {rw : Bool} (h0 : ρ0.pl id = []) (hc : ∀ x, x ∈ flat xs → ∃ v, VA ρ0 x v) (h : Valid ρ w q xs rw) : Valid (ρ.only id p) w q xs rw := by
  obtain ⟨c, ty, fz, h1, h2, h3, h4, h5⟩ := h
  refine ⟨c, ty, fz, h1, h2, h3, h4, All2.imp_mem (fun x y hx hxy => ?_) h5⟩
  obtain ⟨v0, hv0⟩ := hc x (mem_told hx)
  exact hv0.only h0 hxy
theorem RepAt.only {w w0 : World} {i : Nat} {o : Ob} (h0 : ρ0.pl id = []) (hi : i ≠ id) (hr0 : RepAt ρ0 w0 i o) (h : RepAt ρ w i o) : RepAt (ρ.only id p) w i o := by
  cases o with
  | no => trivial
  | arr rw st z xs =>
    obtain ⟨hz, q, rest, hA⟩ := h
    obtain ⟨-, q0, rest0, hA0⟩ := hr0
    refine ⟨hz, q, rest, ⟨by simp only [Rn.only]; rw [if_neg hi]; exact hA.hpl, hA.hx, hA.hs, hA.hz, hA.hv.only h0 hA0.hcl, hA.hown, hA.hst0, fun r hr => ?_, fun x hx => ?_⟩⟩
    · obtain ⟨h1, h2, h3, h4, h5⟩ := hA.hrest r hr
      exact ⟨h1, h2, h3, h4, fun hs => (h5 hs).only h0 hA0.hcl⟩
    · obtain ⟨v0, hv0⟩ := hA0.hcl x hx
      obtain ⟨v, hv⟩ := hA.hcl x hx
      exact ⟨v, hv0.only h0 hv⟩
  | map rw es =>
    obtain ⟨b, h1, h2, ents, clk, h3, h4⟩ := h
    obtain ⟨b0, -, -, ents0, clk0, -, h40⟩ := hr0
    refine ⟨b, h1, h2, ents, clk, h3, All2.imp_mem (fun x y hx hxy => ?_) h4⟩
    obtain ⟨y0, hy0⟩ := h40.ex x hx
    exact ⟨hy0.1.only h0 hxy.1, hy0.2.only h0 hxy.2⟩
end
/-- Its end, told so. -/
structure Stl (H H1 : AH) (v : AV) (H' : AH) : Prop where
  ex : ∃ id n k c rw st z xs, v = .tp [.sl id 0 n, .i k c] ∧ H1.at' id = .arr rw st z xs ∧ n = xs.length ∧ 0 < n ∧ H.n ≤ id ∧ id < H1.n ∧ (∀ x, x ∈ flat xs → x.isI = true) ∧
    H'.n = H1.n ∧ ∀ i, H'.at' i = if i < H.n then H.at' i else if i = id then .arr rw 0 z xs else .no
  old : ∀ i, i < H.n → H1.at' i = H.at' i
theorem Stl.back {H H1 H' : AH} {v : AV} {ρ ρ' : Rn} {w w' : World} {r : Value} (R : Stl H H1 v H') (hH : HeapR ρ H w) (hs : Stp ρ w ρ' w') (hv : V2 ρ' v r) (h1 : HeapR ρ' H1 w') :
    ∃ ρ'', Stp ρ w ρ'' w' ∧ V2 ρ'' v r ∧ HeapR ρ'' H' w' := by
  obtain ⟨⟨id, n, k, c, rw, st, z, xs, rfl, hat, hn, hpos, hid, hlt, hI, hn', hH'⟩, hold⟩ := R
  have hrep := h1.rep id hlt
  rw [hat] at hrep
  obtain ⟨hz, p, rest, hA⟩ := hrep
  have h0 : ρ.pl id = [] := (hH.fr id hid).1
  have hint : ∀ x, x ∈ flat xs → ∃ v, VA ρ x v := fun x hx => by
    have := hI x hx
    cases x <;> first | exact ⟨_, rfl⟩ | cases this
  obtain ⟨ys, rfl, hys⟩ := hv
  obtain ⟨y1, y2, hyl, g1, g2⟩ : ∃ y1 y2, ys.toList = [y1, y2] ∧ V1 ρ' (.sl id 0 n) y1 ∧ V1 ρ' (.i k c) y2 := by
    cases hy : ys.toList with
    | nil => rw [hy] at hys; exact hys.elim
    | cons a l =>
      rw [hy] at hys
      cases l with
      | nil => exact hys.2.elim
      | cons b l =>
        cases l with
        | nil => exact ⟨a, b, rfl, hys.1, hys.2.1⟩
        | cons d l => exact hys.2.2.elim
  obtain ⟨q, hq, q1, q2, hq3⟩ := g1
  have hqp : q = p := by
    rw [hA.hpl] at hq
    rcases List.mem_cons.1 hq with e | e
    · exact e
    · have := (hA.hrest q e).2.1
      omega
  subst hqp
  have hle : ρ.Le (ρ'.only id q) := ⟨fun j a ha => by
    have hj : j ≠ id := fun e => by rw [e, h0] at ha; cases ha
    obtain ⟨a', k1, k2⟩ := hs.le.pl j a ha
    exact ⟨a', by simp only [Rn.only]; rw [if_neg hj]; exact k1, k2⟩, hs.le.ob⟩
  refine ⟨ρ'.only id q, ⟨hle, hs.own, hs.frame, hs.sz, hs.os, hs.tape, hs.out⟩, ⟨ys, rfl, ?_⟩, ?_⟩
  · rw [hyl]
    exact ⟨⟨q, by simp [Rn.only], q1, q2, hq3⟩, g2, trivial⟩
  · refine ⟨fun i hi => ?_, fun i hi => ?_, h1.bnd, fun b i hb => by rw [hn']; exact h1.ids b i hb⟩
    · rw [hH' i]
      by_cases hio : i < H.n
      · rw [if_pos hio]
        have := h1.rep i (by omega)
        rw [hold i hio] at this
        exact RepAt.only h0 (by omega) (hH.rep i hio) this
      · rw [if_neg hio]
        by_cases hii : i = id
        · rw [if_pos hii]
          subst hii
          refine ⟨hz, q, [], ⟨by simp [Rn.only], hA.hx, hA.hs, hA.hz, hA.hv.only h0 hint, fun a ha => ?_, fun _ => ⟨rfl, by omega⟩, fun a ha => (by cases ha), fun x hx => ?_⟩⟩
          · rw [List.mem_singleton] at ha
            subst ha
            exact hA.hown a (by simp)
          · obtain ⟨v0, hv0⟩ := hint x hx
            exact ⟨v0, hv0.mono hle⟩
        · rw [if_neg hii]; trivial
    · have hi' : H1.n ≤ i := by omega
      refine ⟨?_, (h1.fr i hi').2⟩
      simp only [Rn.only]
      rw [if_neg (by omega)]
      exact (h1.fr i hi').1
open Classical in
noncomputable def entS (C : Tab) (F : Fn) (vs : List AV) (H : AH) : Option (AV × AH) := match ent C F vs H with
  | some (v, H1) => if h : ∃ H', Stl H H1 v H' then some (v, h.choose) else some (v, H1)
  | none => none
theorem entS_ok {P : Program} {F : Fn} {f : Nat} {C T : Tab} (hC : TabOK P C) (hT : TabOK P T) (hmx : P.follows .mixedOrders = true) (hF : chkF P F f = true) : TabOK P (ext T f (entS C F)) := by
  intro g vs H v H' h
  unfold Vm.ext at h
  by_cases hg : g = f
  · rw [if_pos hg] at h
    subst hg
    unfold entS at h
    have hok := ent_ok hC hmx hF
    cases he : ent C F vs H with
    | none => rw [he] at h; cases h
    | some x =>
      obtain ⟨v1, H1⟩ := x
      rw [he] at h
      have hent : ext C g (ent C F) g vs H = some (v1, H1) := by unfold Vm.ext; rw [if_pos rfl]; exact he
      obtain ⟨k1, k2⟩ := hok g vs H v1 H1 hent
      simp only at h
      split at h
      · rename_i hx
        cases h
        refine ⟨k1, fun ρ w rargs hH hG hv => (k2 ρ w rargs hH hG hv).mono fun e w' hb => ?_⟩
        cases e <;> try exact hb
        obtain ⟨ρ', b1, b2, b3⟩ := hb
        exact hx.choose_spec.back hH b1 b2 b3
      · cases h
        exact ⟨k1, k2⟩
  · rw [if_neg hg] at h
    exact hT g vs H v H' h
/-- The end of a run whose row is its own. -/
theorem entS_spec {C T : Tab} {F : Fn} {f : Nat} {G : AV → AH → Prop} {vs : List AV} {H : AH} (h : Runs C F vs H G) : ∃ v H1 H', ext T f (entS C F) f vs H = some (v, H') ∧ G v H1 ∧ (Stl H H1 v H' ∨ (H' = H1 ∧ ¬ ∃ H2, Stl H H1 v H2)) := by
  obtain ⟨v, H1, h1, h2⟩ := ent_spec (f := f) h
  unfold Vm.ext at h1
  rw [if_pos rfl] at h1
  unfold Vm.ext
  rw [if_pos rfl]
  unfold entS
  rw [h1]
  simp only
  by_cases hx : ∃ H', Stl H H1 v H'
  · exact ⟨v, H1, hx.choose, dif_pos hx, h2, .inl hx.choose_spec⟩
  · exact ⟨v, H1, H1, dif_neg hx, h2, .inr ⟨rfl, hx⟩⟩
end Go.Vm

/- A row's first heap with package-level variables that are read: a map of text, and its variable. -/
namespace Go.Vm
set_option linter.unusedVariables false
set_option linter.unusedSimpArgs false
section
variable {P : Program} {w : World}
def rn1 (cs : Nat → Nat) (G : Nat) : Rn := ⟨fun i => if i < G then [⟨i, 0, 1, 0, 0, cs i⟩] else [], fun _ => none, fun _ => .no, fun _ _ => none⟩
theorem Fst.first1 (cs : Nat → Nat) : Fst P (rn1 cs P.globals.size) ⟨P.globals.size, fun _ => .no⟩ w :=
  ⟨⟨fun _ _ => trivial, fun i hi => ⟨by simp only [rn1]; rw [if_neg (by simpa using hi)], rfl⟩, fun _ _ => rfl, fun _ _ h => by cases h⟩, fun _ => rfl,
    fun g hg => ⟨⟨g, 0, 1, 0, 0, cs g⟩, by simp only [rn1]; rw [if_pos hg]; simp, rfl, rfl, rfl⟩⟩
def Rn.addO (ρ : Rn) (id b : Nat) : Rn := { ρ with ob := fun i => if i = id then some b else ρ.ob i }
theorem Fst.map {ρ : Rn} {H : AH} (h : Fst P ρ H w) {b : Nat} {ents : Array MapEntry} {clk : Nat} {es : List (AV × AV)} (hb : w.heap[b]? = some (.map ents clk)) (hes : All2 (EntR ρ) es ents.toList) :
    Fst P (ρ.addO H.n b) (H.new (.map false es)) w ∧ ρ.Le (ρ.addO H.n b) := by
  have hnil := (h.heap.fr H.n (Nat.le_refl _)).2
  have hle : ρ.Le (ρ.addO H.n b) := ⟨fun i q hq => ⟨q, hq, rfl, rfl, rfl, rfl, rfl, Nat.le_refl _⟩, fun i b' hb' => by
    simp only [Rn.addO]
    by_cases e : i = H.n
    · rw [e, hnil] at hb'; cases hb'
    · rwa [if_neg e]⟩
  refine ⟨⟨⟨fun i hi => ?_, fun i hi => ?_, h.heap.bnd, fun b' i hb' => absurd ((h.own b').symm.trans hb') (by simp)⟩, h.own, fun g hg => ?_⟩, hle⟩
  · by_cases e : i = H.n
    · subst e
      rw [new_at]
      exact ⟨b, by simp [Rn.addO], h.own b, ents, clk, hb, hes.mono fun _ _ => EntR.mono hle⟩
    · have hlt : i < H.n := by simp at hi; omega
      rw [new_old hlt]
      exact (h.heap.rep i hlt).of hle rfl (Nat.le_refl _) fun _ _ _ => ⟨rfl, rfl⟩
  · have hi' : H.n + 1 ≤ i := hi
    have := h.heap.fr i (by omega)
    refine ⟨this.1, ?_⟩
    simp only [Rn.addO]
    rw [if_neg (by omega)]
    exact this.2
  · exact h.glob g hg
theorem Fst.glob1 {ρ : Rn} {H : AH} (h : Fst P ρ H w) {g : Nat} {c : Array Value} {ty : TypeId} {fz : Nat × Nat} {x : AV} {v : Value} (hg : g < H.n) (hpl : ρ.pl g = [⟨g, 0, 1, 0, 0, c.size⟩]) (hb : w.heap[g]? = some (.cells c ty fz)) (hc : c.toList = [v]) (hx : VA ρ x v) :
    Fst P (ρ.addP g ⟨g, 0, 1, 0, 1, c.size⟩) (H.set g (.arr false 0 1 [x])) w ∧ ρ.Le (ρ.addP g ⟨g, 0, 1, 0, 1, c.size⟩) := by
  have hsz : c.size = 1 := by rw [← Array.length_toList, hc]; rfl
  have hle : ρ.Le (ρ.addP g ⟨g, 0, 1, 0, 1, c.size⟩) := ⟨fun i q hq => by
    by_cases e : i = g
    · rw [e, hpl, List.mem_singleton] at hq
      subst hq
      exact ⟨⟨g, 0, 1, 0, 1, c.size⟩, by simp [Rn.addP, e], rfl, rfl, rfl, rfl, rfl, Nat.zero_le _⟩
    · exact ⟨q, by simp only [Rn.addP]; rwa [if_neg e], rfl, rfl, rfl, rfl, rfl, Nat.le_refl _⟩, fun _ _ h => h⟩
  have hcx := hx.one.2.2
  refine ⟨⟨⟨fun i hi => ?_, fun i hi => ?_, h.heap.bnd, fun b' i hb' => absurd ((h.own b').symm.trans hb') (by simp)⟩, h.own, fun g hg => ?_⟩, hle⟩
  · by_cases e : i = g
    · subst e
      rw [set_at]
      have hfl : flat [x] = [x] := by simp [flat, hcx]
      refine ⟨fun y hy => ?_, ⟨i, 0, 1, 0, 1, c.size⟩, [], ⟨by simp [Rn.addP], rfl, Nat.zero_le _, rfl, ⟨c, ty, fz, hb, rfl, fun h => Bool.noConfusion h, by simp [hsz], ?_⟩, fun q hq => ?_, fun _ => ⟨rfl, rfl⟩, fun q hq => (by cases hq), fun y hy => ?_⟩⟩
      · rw [List.mem_singleton] at hy
        rw [hy, hcx]; rfl
      · simp only [told, List.take_succ_cons, List.take_zero, List.drop_zero, hfl, hc]
        exact ⟨hx.mono hle, trivial⟩
      · simp only [List.mem_singleton] at hq
        subst hq
        exact ⟨(Array.getElem?_eq_some_iff.1 hb).1, h.own i⟩
      · rw [hfl, List.mem_singleton] at hy
        subst hy
        exact ⟨v, hx.mono hle⟩
    · rw [set_ne e]
      exact (h.heap.rep i hi).of hle (by simp [Rn.addP, e]) (Nat.le_refl _) fun _ _ _ => ⟨rfl, rfl⟩
  · have := h.heap.fr i hi
    simp only [Rn.addP]
    have hne : i ≠ g := by have : H.n ≤ i := hi; omega
    rw [if_neg hne]
    exact this
  · obtain ⟨p, p1, p2, p3, p4⟩ := h.glob g hg
    obtain ⟨p', k1, k2, k3, k4, k5, -⟩ := hle.pl g p p1
    exact ⟨p', k1, k2.trans p2, k3.trans p3, k5.trans p4⟩
/-! Maps found by the same pairs are alike. -/
theorem mpFind_some {es : List (AV × AV)} {k v : AV} : mpFind es k = some v → ∃ e, e ∈ es ∧ cellsEq k.cells e.1.cells = true ∧ e.2 = v := by
  induction es with
  | nil => intro h; cases h
  | cons e r ih =>
    intro h
    simp only [mpFind] at h
    split at h
    · rename_i hk
      exact ⟨e, by simp, hk, Option.some.inj h⟩
    · obtain ⟨e', h1, h2⟩ := ih h
      exact ⟨e', by simp [h1], h2⟩
theorem mpFind_none {es : List (AV × AV)} {k : AV} : mpFind es k = none → ∀ e, e ∈ es → cellsEq k.cells e.1.cells = false := by
  induction es with
  | nil => intro _ e he; cases he
  | cons e r ih =>
    intro h e' he'
    simp only [mpFind] at h
    split at h
    · cases h
    · rename_i hk
      rcases List.mem_cons.1 he' with e1 | e1
      · rw [e1]; simpa using hk
      · exact ih h e' e1
theorem mpFind_same {es fs : List (AV × AV)} {k : AV} (h1 : ∀ e, e ∈ es → e ∈ fs) (h2 : ∀ e, e ∈ fs → e ∈ es) (hf : ∀ e e', e ∈ fs → e' ∈ fs → cellsEq k.cells e.1.cells = true → cellsEq k.cells e'.1.cells = true → e.2 = e'.2) : mpFind es k = mpFind fs k := by
  cases he : mpFind es k with
  | none =>
    cases hf' : mpFind fs k with
    | none => rfl
    | some v =>
      obtain ⟨e, g1, g2, -⟩ := mpFind_some hf'
      have := mpFind_none he e (h2 e g1)
      rw [g2] at this; cases this
  | some v =>
    obtain ⟨e, g1, g2, g3⟩ := mpFind_some he
    cases hf' : mpFind fs k with
    | none =>
      have := mpFind_none hf' e (h1 e g1)
      rw [g2] at this; cases this
    | some v' =>
      obtain ⟨e', k1, k2, k3⟩ := mpFind_some hf'
      rw [← g3, ← k3, hf e e' (h1 e g1) k1 g2 k2]
end
end Go.Vm

/- Elements of own slices, changed field by field; and the decimal text that a mark is. -/
namespace Go.Vm
set_option linter.unusedVariables false
set_option linter.unusedSimpArgs false
section
variable {C : Tab} {α : Type} {E : Enc α}
theorem Mx.stf {H : AH} {a : AV} {cur : List α} {x x' : α} {i off z : Nat} {v : AV} (h : Mx H E a (cur.set i x)) (hz : E.z = z) (hi : i < cur.length) (ho : off < z) (hv : v.cells = [v]) (hx : (E.fn x).set off v = E.fn x') :
    slZ H z a ∧ iaC (i : Int) a ∧ faC (iaV i a) ∧ (∀ (L : List Lv) (g : Nat), stC ⟨L, g, H⟩ v (faV off (iaV i a))) ∧ ∃ H', (∀ (L : List Lv) (g : Nat), stM ⟨L, g, H⟩ v (faV off (iaV i a)) = ⟨L, g, H'⟩) ∧ Mx H' E a (cur.set i x') ∧ H'.n = H.n ∧ ∀ j, ¬ j ∈ idA a → H'.at' j = H.at' j := by
  subst hz
  have hl : ((cur.set i x).map E.v).length = cur.length := by simp
  have hg : ((cur.set i x).map E.v).getD i .u = E.v x := by simp [List.getD, hi]
  have hset : setEl (E.v x) off v = E.v x' := by
    simp only [Enc.v, setEl, setPart, hv, List.length_singleton]
    rw [← hx, List.set_eq_take_append_cons_drop, if_pos (by rw [E.len]; exact ho)]
    simp
  have hmap : ((cur.set i x).map E.v).set i (E.v x') = (cur.set i x').map E.v := by simp [List.map_set]
  obtain ⟨h1, h2, h3, -⟩ := (Mn.sl h).ia (j := i) (by omega) (by rw [hl]; omega)
  rw [Int.toNat_natCast] at h3
  obtain ⟨h4, H', h5, h6, h7, h8⟩ := Mn.st h (j := i) (by omega) (by rw [hl]; omega) (v := v) (off := off) (by rw [Int.toNat_natCast, hg, Enc.cells, hv]; simp; omega) [] 0
  rw [Int.toNat_natCast, hg, hset, hmap] at h6
  rw [Int.toNat_natCast] at h4 h5
  have hst : ∀ (L : List Lv) (g : Nat), stC ⟨L, g, H⟩ v (faV off (iaV i a)) ∧ stM ⟨L, g, H⟩ v (faV off (iaV i a)) = ⟨L, g, H'⟩ := fun L g => by
    have h' : Mn H E.z a ((cur.set i x).map E.v) := h
    generalize (cur.set i x).map E.v = els at h' hl
    cases h' with
    | nil => simp at hl; omega
    | own k1 k2 =>
      refine ⟨h4, ?_⟩
      simp only [iaV, faV, stM, k2] at h5 ⊢
      have := congrArg Mem.h h5
      simp only at this
      rw [this]
  exact ⟨h1, h2, h3, fun L g => (hst L g).1, H', fun L g => (hst L g).2, h6, h7, h8⟩
theorem Sx.fdn {H : AH} {a : AV} {xs : List α} (h : Sx H E a xs) {i off z : Nat} (hz : E.z = z) (hi : i < xs.length) (ho : off < z) : slZ H z a ∧ iaC (i : Int) a ∧ faC (iaV i a) ∧ (∀ (L : List Lv) (g : Nat), ldC ⟨L, g, H⟩ none (faV off (iaV i a))) ∧ ∀ (L : List Lv) (g : Nat), ldX ⟨L, g, H⟩ none (faV off (iaV i a)) = (E.fn xs[i]).getD off .u := by
  subst hz
  obtain ⟨h1, h2, h3, -⟩ := h.fd (j := i) (by omega) (by omega) ho [] 0 hi
  exact ⟨h1, h2, h3, fun L g => (h.fd (j := i) (by omega) (by omega) ho L g hi).2.2.2.1, fun L g => (h.fd (j := i) (by omega) (by omega) ho L g hi).2.2.2.2⟩
/-- The elements that a mark leaves: c numbers each. -/
def mks (mk : Nat → α) (c k n : Nat) : List α := (List.range n).map fun j => mk (k + c * j)
theorem mks_len (mk : Nat → α) (c k n : Nat) : (mks mk c k n).length = n := by simp [mks]
theorem mks_get (mk : Nat → α) (c k n i : Nat) (h : i < (mks mk c k n).length) : (mks mk c k n)[i] = mk (k + c * i) := by simp [mks]
theorem mks_step {mk : Nat → α} {c k i : Nat} {xs : List α} (hi : i < xs.length) : (mks mk c k i ++ xs.drop i).set i (mk (k + c * i)) = mks mk c k (i + 1) ++ xs.drop (i + 1) := by
  rw [List.set_append_right _ _ (by rw [mks_len]; exact Nat.le_refl _), mks_len, Nat.sub_self, List.drop_eq_getElem_cons hi, List.set_cons_zero]
  simp [mks, List.range_succ]
theorem mks_cur {mk : Nat → α} {c k i : Nat} {xs : List α} (hi : i < xs.length) : (mks mk c k i ++ xs.drop i).length = xs.length ∧ (mks mk c k i ++ xs.drop i).set i xs[i] = mks mk c k i ++ xs.drop i := by
  refine ⟨by simp [mks]; omega, ?_⟩
  rw [List.set_append_right _ _ (by rw [mks_len]; exact Nat.le_refl _), mks_len, Nat.sub_self, List.drop_eq_getElem_cons hi, List.set_cons_zero]
/-- Behind changes of rows of its own: all else stays. -/
structure Kp (ids : List Nat) (H H' : AH) : Prop where
  n : H.n ≤ H'.n
  at' : ∀ i, i < H.n → ¬ i ∈ ids → H'.at' i = H.at' i
theorem Kp.refl (ids : List Nat) (H : AH) : Kp ids H H := ⟨Nat.le_refl _, fun _ _ _ => rfl⟩
theorem Kp.trans {ids : List Nat} {H H1 H2 : AH} (h : Kp ids H H1) (h' : Kp ids H1 H2) : Kp ids H H2 := ⟨Nat.le_trans h.n h'.n, fun i hi hn => (h'.at' i (Nat.lt_of_lt_of_le hi h.n) hn).trans (h.at' i hi hn)⟩
theorem Kp.ext {ids : List Nat} {H H' : AH} (h : Ext H H') : Kp ids H H' := ⟨h.n, fun i hi _ => h.at' i hi⟩
theorem Kp.st {ids : List Nat} {H H' : AH} (hn : H'.n = H.n) (h : ∀ j, ¬ j ∈ ids → H'.at' j = H.at' j) : Kp ids H H' := ⟨Nat.le_of_eq hn.symm, fun i _ hi => h i hi⟩
theorem Kp.mono {ids js : List Nat} {H H' : AH} (h : Kp ids H H') (hs : ∀ i, i ∈ ids → i ∈ js) : Kp js H H' := ⟨h.n, fun i hi hn => h.at' i hi fun hm => hn (hs i hm)⟩
/-- Rows of its own are nobody else's. -/
theorem Kp.put {ids : List Nat} {H0 H H' : AH} (he : Ext H0 H) (h : Kp ids H H') (hi : ∀ i, i ∈ ids → H0.n ≤ i) : Ext H0 H' := he.put hi h.n h.at'
theorem Kp.sl {ids : List Nat} {H H' : AH} {z : Nat} {a : AV} {els : List AV} (h : Kp ids H H') (hs : Sl H z a els) (hd : ∀ i, i ∈ idA a → ¬ i ∈ ids) : Sl H' z a els := hs.fr h.n fun i hi => h.at' i (hs.lt i hi) (hd i hi)
theorem Kp.mn {ids : List Nat} {H H' : AH} {z : Nat} {a : AV} {els : List AV} (h : Kp ids H H') (hs : Mn H z a els) (hd : ∀ i, i ∈ idA a → ¬ i ∈ ids) : Mn H' z a els := hs.fr h.n fun i hi => h.at' i (hs.lt i hi) (hd i hi)
/-! The text of a mark. -/
def dgs (k : Nat) (out : List UInt8) : List UInt8 := if h : k = 0 then out else dgs (k / 10) (UInt8.ofNat (48 + k % 10) :: out)
termination_by k
decreasing_by omega
def mt (k : Nat) : List UInt8 := if k = 0 then [109, 48] else 109 :: dgs k []
def T_mt (C : Tab) (f : Nat) : Prop := ∀ (k : Nat) (H : AH), k ≤ 1099511627776 → ∃ H', C f [.i .i64 k] H = some (.s (mt k), H') ∧ Ext H H'
end
end Go.Vm

/- Objects that are one struct: fields read and written through their address. -/
namespace Go.Vm
set_option linter.unusedVariables false
set_option linter.unusedSimpArgs false
structure Obj1 (H : AH) (id : Nat) (cs : List AV) : Prop where
  lt : id < H.n
  at' : H.at' id = .arr true 0 cs.length [.ag cs]
section
variable {H H' : AH} {id off : Nat} {cs : List AV} {v : AV}
theorem pv_faC : faC (.pv id off) := trivial
theorem pv_faV {o : Nat} : faV o (.pv id off) = .pv id (off + o) := rfl
theorem pv_ldC0 {M : Mem} : ldC M (some 0) (.pv id off) = True := by simp [ldC]
theorem pv_ldX0 {M : Mem} : ldX M (some 0) (.pv id off) = .ag [] := rfl
theorem Obj1.ld (h : Obj1 H id cs) (ho : off < cs.length) : (∀ (L : List Lv) (g : Nat), ldC ⟨L, g, H⟩ none (.pv id off)) ∧ ∀ (L : List Lv) (g : Nat), ldX ⟨L, g, H⟩ none (.pv id off) = cs.getD off .u := by
  refine ⟨fun L g => ?_, fun L g => ?_⟩
  · simp only [ldC, h.at']
    exact .inr ⟨trivial, by simpa [partFits, flat, AV.cells] using ho⟩
  · show ldV ⟨L, g, H⟩ none (.pv id off) = _
    simp only [ldV, h.at', partOf, flat, AV.cells, List.append_nil]
theorem Obj1.lds (h : Obj1 H id cs) : (∀ (L : List Lv) (g : Nat), ldC ⟨L, g, H⟩ (some cs.length) (.pv id 0)) ∧ ∀ (L : List Lv) (g : Nat), ldX ⟨L, g, H⟩ (some cs.length) (.pv id 0) = if cs.length = 0 then .ag [] else .ag cs := by
  refine ⟨fun L g => ?_, fun L g => ?_⟩
  · simp only [ldC, h.at']
    exact .inr ⟨trivial, by simp [partFits, flat, AV.cells]⟩
  · cases hc : cs.length with
    | zero => rfl
    | succ n =>
      show ldV ⟨L, g, H⟩ (some (n + 1)) (.pv id 0) = _
      simp only [ldV, h.at', partOf, flat, AV.cells, List.append_nil, List.drop_zero]
      rw [List.take_of_length_le (by omega)]
      simp
theorem Obj1.st (h : Obj1 H id cs) (ho : off < cs.length) (hv : v.cells = [v]) : (∀ (L : List Lv) (g : Nat), stC ⟨L, g, H⟩ v (.pv id off)) ∧ ∃ H', (∀ (L : List Lv) (g : Nat), stM ⟨L, g, H⟩ v (.pv id off) = ⟨L, g, H'⟩) ∧ Obj1 H' id (cs.set off v) ∧ H'.n = H.n ∧ ∀ j, ¬ j ∈ [id] → H'.at' j = H.at' j := by
  refine ⟨fun L g => ?_, H.set id (.arr true 0 cs.length [.ag (cs.set off v)]), fun L g => ?_, ⟨h.lt, ?_⟩, rfl, fun j hj => set_ne fun e => hj (by simp [e])⟩
  · simp only [stC, h.at', hv, List.length_singleton]
    exact ⟨trivial, trivial, rfl, ho⟩
  · simp only [stM, h.at', setEl, setPart, hv, List.length_singleton]
    rw [List.set_eq_take_append_cons_drop, if_pos ho]
    simp
  · rw [set_at, List.length_set]
theorem Obj1.fr (h : Obj1 H id cs) (hn : H.n ≤ H'.n) (ha : H'.at' id = H.at' id) : Obj1 H' id cs := ⟨Nat.lt_of_lt_of_le h.lt hn, ha.trans h.at'⟩
theorem Obj1.ext (h : Obj1 H id cs) (he : Ext H H') : Obj1 H' id cs := h.fr he.n (he.at' _ h.lt)
theorem Obj1.kp {ids : List Nat} (h : Obj1 H id cs) (hk : Kp ids H H') (hi : ¬ id ∈ ids) : Obj1 H' id cs := h.fr hk.n (hk.at' _ h.lt hi)
theorem Obj1.new {H : AH} {cs : List AV} : Obj1 (H.new (.arr true 0 cs.length [.ag cs])) H.n cs := ⟨by simp, new_at⟩
end
end Go.Vm

/- Functions' code as literals of the abstract machine, printed by wip/tools/lits.py; the kernel checks each against the translation. -/
namespace Go.Vm
set_option linter.unusedVariables false
set_option linter.unusedSimpArgs false
/-- loop.example/s01858/spec.EdnsRecord -/
def c_spec_EdnsRecord : Fn := ⟨4, [(.c 8 (some 5)), (.t 9)],
    .q (.o [.lal 8 (.ag [(.s []), (.i .i64 0), (.i .i64 0), (.i .i64 0), (.s [])]),
      .mv 9 (.c (.i .i64 0))])
    (.q (.q (.o [.mv 15 (.t 0),
      .cl (some 16) 26 [(.t 15), (.c (.i .i64 65535))],
      .un 17 .not (.t 16),
      .mv 18 (.t 17),
      .gd 18 false (.mv 19 (.t 2)),
      .gd 18 false (.cl (some 20) 26 [(.t 19), (.c (.i .i64 65535))]),
      .gd 18 false (.un 21 .not (.t 20)),
      .pk 22 (.t 18) (.c (.b true)) (.t 21),
      .mv 23 (.t 22),
      .gd 23 false (.mv 24 (.t 1)),
      .gd 23 false (.cl (some 25) 26 [(.t 24), (.c (.i .i64 255))]),
      .gd 23 false (.un 26 .not (.t 25)),
      .pk 27 (.t 23) (.c (.b true)) (.t 26)])
    (.i (.t 27) (.q (.o [.bd 28 [(.s []), (.i .i64 0), (.i .i64 0), (.i .i64 0), (.s [])] [],
      .st (.t 8) (.t 28) 5,
      .mv 9 (.c (.i .i64 32))])
    (.r))
    (.k)))
    (.q (.o [.bs 29 (.i .u8 0) 1 0 [],
      .mv 10 (.t 29)])
    (.q (.q (.o [.mv 11 (.c (.i .i64 0))])
    (.b 0 (.l [0, 1, 2, 3, 8, 10, 11] (.q (.q (.o [.mv 30 (.t 11),
      .mv 31 (.t 3),
      .ln 32 (.t 31),
      .bn 33 .lss (.t 30) (.t 32)])
    (.i (.t 33) (.k)
    (.x 0)))
    (.q (.b 1 (.q (.o [.mv 36 (.t 3),
      .mv 37 (.t 11),
      .ia 38 (.t 36) (.t 37) 2,
      .ld 39 (.t 38) (some 2),
      .lal 12 (.ag [(.i .i64 0), (.s [])]),
      .st (.t 12) (.t 39) 2])
    (.q (.q (.o [.fa 40 (.t 12) 0,
      .ld 41 (.t 40) none,
      .cl (some 42) 26 [(.t 41), (.c (.i .i64 65535))],
      .un 43 .not (.t 42),
      .mv 44 (.t 43),
      .gd 44 false (.fa 45 (.t 12) 1),
      .gd 44 false (.ld 46 (.t 45) none),
      .gd 44 false (.lns 47 (.t 46)),
      .gd 44 false (.bn 48 .gtr (.t 47) (.c (.i .i64 65535))),
      .pk 49 (.t 44) (.c (.b true)) (.t 48)])
    (.i (.t 49) (.q (.o [.bd 50 [(.s []), (.i .i64 0), (.i .i64 0), (.i .i64 0), (.s [])] [],
      .st (.t 8) (.t 50) 5,
      .mv 9 (.c (.i .i64 32))])
    (.r))
    (.k)))
    (.q (.p [⟨.fa 51 (.t 12) 0, [], false⟩,
      ⟨.ld 52 (.t 51) none, [], false⟩,
      ⟨.cl (some 53) 27 [(.t 52), (.c (.i .i64 2))], [], true⟩,
      ⟨.fa 54 (.t 12) 1, [], false⟩,
      ⟨.ld 55 (.t 54) none, [2], false⟩,
      ⟨.lns 56 (.t 55), [], false⟩,
      ⟨.cl (some 57) 27 [(.t 56), (.c (.i .i64 2))], [], true⟩,
      ⟨.bn 58 .add (.t 53) (.t 57), [], false⟩,
      ⟨.fa 59 (.t 12) 1, [], false⟩,
      ⟨.ld 60 (.t 59) none, [2, 6], false⟩,
      ⟨.bn 61 .add (.t 58) (.t 60), [], false⟩,
      ⟨.mv 13 (.t 61), [], false⟩])
    (.q (.o [.mv 14 (.c (.i .i64 0))])
    (.b 2 (.l [0, 1, 2, 3, 8, 10, 11, 13, 14] (.q (.q (.o [.mv 62 (.t 14),
      .mv 63 (.t 13),
      .lns 64 (.t 63),
      .bn 65 .lss (.t 62) (.t 64)])
    (.i (.t 65) (.k)
    (.x 2)))
    (.q (.b 3 (.o [.mv 68 (.t 10),
      .mv 69 (.t 13),
      .mv 70 (.t 14),
      .ix 71 (.t 69) (.t 70),
      .lbs 72 (.i .u8 0) 1 1 [(0, (.t 71))],
      .ap 73 (.t 68) (.t 72) 1 1,
      .mv 10 (.t 73)]))
    (.o [.mv 66 (.t 14),
      .bn 67 .add (.t 66) (.c (.i .i64 1)),
      .mv 14 (.t 67)]))))))))))
    (.o [.mv 34 (.t 11),
      .bn 35 .add (.t 34) (.c (.i .i64 1)),
      .mv 11 (.t 35)]))))))
    (.q (.q (.o [.mv 74 (.t 10),
      .ln 75 (.t 74),
      .bn 76 .gtr (.t 75) (.c (.i .i64 65535))])
    (.i (.t 76) (.q (.o [.bd 77 [(.s []), (.i .i64 0), (.i .i64 0), (.i .i64 0), (.s [])] [],
      .st (.t 8) (.t 77) 5,
      .mv 9 (.c (.i .i64 32))])
    (.r))
    (.k)))
    (.q (.o [.mv 78 (.t 0),
      .mv 79 (.t 1),
      .bn 80 .shl (.t 79) (.c (.i .u64 24)),
      .mv 81 (.t 2),
      .bn 82 .add (.t 80) (.t 81),
      .mv 83 (.t 10),
      .cbs 84 (.t 83),
      .bd 85 [(.s []), (.i .i64 0), (.i .i64 0), (.i .i64 0), (.s [])] [(0, 1, (.c (.s [0]))), (1, 1, (.c (.i .i64 41))), (2, 1, (.t 78)), (3, 1, (.t 82)), (4, 1, (.t 84))],
      .st (.t 8) (.t 85) 5,
      .mv 9 (.c (.i .i64 0))])
    (.r))))))⟩
abbrev n_spec_EdnsRecord : Nat := 7
theorem k_spec_EdnsRecord : chkF Go.Proofs.Tryd.prog c_spec_EdnsRecord 7 = true := by kernel_rfl
/-- loop.example/s01858/impl.EdnsRecord -/
def c_impl_EdnsRecord : Fn := ⟨4, [(.c 8 (some 5)), (.t 9)],
    .q (.o [.lal 8 (.ag [(.s []), (.i .i64 0), (.i .i64 0), (.i .i64 0), (.s [])]),
      .mv 9 (.c (.i .i64 0))])
    (.q (.q (.o [.mv 13 (.t 0),
      .cl (some 14) 28 [(.t 13), (.c (.i .i64 0)), (.c (.i .i64 65535))],
      .un 15 .not (.t 14),
      .mv 16 (.t 15),
      .gd 16 false (.mv 17 (.t 2)),
      .gd 16 false (.cl (some 18) 28 [(.t 17), (.c (.i .i64 0)), (.c (.i .i64 65535))]),
      .gd 16 false (.un 19 .not (.t 18)),
      .pk 20 (.t 16) (.c (.b true)) (.t 19),
      .mv 21 (.t 20),
      .gd 21 false (.mv 22 (.t 1)),
      .gd 21 false (.cl (some 23) 28 [(.t 22), (.c (.i .i64 0)), (.c (.i .i64 255))]),
      .gd 21 false (.un 24 .not (.t 23)),
      .pk 25 (.t 21) (.c (.b true)) (.t 24)])
    (.i (.t 25) (.q (.o [.bd 26 [(.s []), (.i .i64 0), (.i .i64 0), (.i .i64 0), (.s [])] [],
      .st (.t 8) (.t 26) 5,
      .mv 9 (.c (.i .i64 32))])
    (.r))
    (.k)))
    (.q (.o [.mv 10 (.c (.s []))])
    (.q (.q (.o [.mv 27 (.t 3),
      .ln 28 (.t 27),
      .mv 29 (.c (.i .i64 0))])
    (.b 0 (.l [0, 1, 2, 8, 10, 27, 28, 29] (.q (.o [.bn 30 .lss (.t 29) (.t 28)])
    (.q (.i (.t 30) (.k)
    (.x 0))
    (.q (.b 1 (.q (.o [.ia 31 (.t 27) (.t 29) 2,
      .ld 32 (.t 31) (some 2),
      .lal 12 (.ag [(.i .i64 0), (.s [])]),
      .st (.t 12) (.t 32) 2])
    (.q (.q (.o [.fa 33 (.t 12) 0,
      .ld 34 (.t 33) none,
      .cl (some 35) 28 [(.t 34), (.c (.i .i64 0)), (.c (.i .i64 65535))],
      .un 36 .not (.t 35),
      .mv 37 (.t 36),
      .gd 37 false (.fa 38 (.t 12) 1),
      .gd 37 false (.ld 39 (.t 38) none),
      .gd 37 false (.lns 40 (.t 39)),
      .gd 37 false (.bn 41 .gtr (.t 40) (.c (.i .i64 65535))),
      .pk 42 (.t 37) (.c (.b true)) (.t 41)])
    (.i (.t 42) (.q (.o [.bd 43 [(.s []), (.i .i64 0), (.i .i64 0), (.i .i64 0), (.s [])] [],
      .st (.t 8) (.t 43) 5,
      .mv 9 (.c (.i .i64 32))])
    (.r))
    (.k)))
    (.q (.p [⟨.mv 44 (.t 10), [], false⟩,
      ⟨.fa 45 (.t 12) 0, [], false⟩,
      ⟨.ld 46 (.t 45) none, [], false⟩,
      ⟨.cl (some 47) 29 [(.t 46)], [], true⟩,
      ⟨.fa 48 (.t 12) 1, [], false⟩,
      ⟨.ld 49 (.t 48) none, [3], false⟩,
      ⟨.lns 50 (.t 49), [], false⟩,
      ⟨.cl (some 51) 29 [(.t 50)], [], true⟩,
      ⟨.bn 52 .add (.t 47) (.t 51), [], false⟩,
      ⟨.fa 53 (.t 12) 1, [], false⟩,
      ⟨.ld 54 (.t 53) none, [3, 7], false⟩,
      ⟨.bn 55 .add (.t 52) (.t 54), [], false⟩,
      ⟨.bn 56 .add (.t 44) (.t 55), [], false⟩,
      ⟨.mv 10 (.t 56), [], false⟩])
    (.q (.o [.mv 57 (.t 10),
      .lns 58 (.t 57),
      .bn 59 .gtr (.t 58) (.c (.i .i64 65535))])
    (.i (.t 59) (.q (.o [.bd 60 [(.s []), (.i .i64 0), (.i .i64 0), (.i .i64 0), (.s [])] [],
      .st (.t 8) (.t 60) 5,
      .mv 9 (.c (.i .i64 32))])
    (.r))
    (.k)))))))
    (.o [.bn 61 .add (.t 29) (.c (.i .i64 1)),
      .mv 29 (.t 61)])))))))
    (.q (.o [.mv 62 (.t 0),
      .mv 63 (.t 1),
      .bn 64 .shl (.t 63) (.c (.i .u64 24)),
      .mv 65 (.t 2),
      .bn 66 .or (.t 64) (.t 65),
      .mv 67 (.t 10),
      .bd 68 [(.s []), (.i .i64 0), (.i .i64 0), (.i .i64 0), (.s [])] [(0, 1, (.c (.s [0]))), (1, 1, (.c (.i .i64 41))), (2, 1, (.t 62)), (3, 1, (.t 66)), (4, 1, (.t 67))],
      .st (.t 8) (.t 68) 5,
      .mv 9 (.c (.i .i64 0))])
    (.r)))))⟩
abbrev n_impl_EdnsRecord : Nat := 8
theorem k_impl_EdnsRecord : chkF Go.Proofs.Tryd.prog c_impl_EdnsRecord 8 = true := by kernel_rfl
/-- loop.example/s01858/spec.l04In -/
def c_spec_l04In : Fn := ⟨2, [(.t 4)],
    .q (.o [.mv 4 (.c (.b false))])
    (.q (.o [.mv 5 (.t 0),
      .bn 6 .geq (.t 5) (.c (.i .i64 0)),
      .mv 7 (.t 6),
      .gd 7 true (.mv 8 (.t 0)),
      .gd 7 true (.mv 9 (.t 1)),
      .gd 7 true (.bn 10 .leq (.t 8) (.t 9)),
      .pk 11 (.t 7) (.t 10) (.c (.b false)),
      .mv 4 (.t 11)])
    (.r))⟩
abbrev n_spec_l04In : Nat := 26
theorem k_spec_l04In : chkF Go.Proofs.Tryd.prog c_spec_l04In 26 = true := by kernel_rfl
/-- loop.example/s01858/spec.l02Put -/
def c_spec_l02Put : Fn := ⟨2, [(.t 4)],
    .q (.o [.mv 4 (.c (.s []))])
    (.q (.o [.bs 7 (.i .u8 0) 1 0 [],
      .mv 5 (.t 7)])
    (.q (.q (.o [.mv 8 (.t 1),
      .bn 9 .sub (.t 8) (.c (.i .i64 1)),
      .mv 6 (.t 9)])
    (.b 0 (.l [0, 5, 6] (.q (.q (.o [.mv 10 (.t 6),
      .bn 11 .geq (.t 10) (.c (.i .i64 0))])
    (.i (.t 11) (.k)
    (.x 0)))
    (.q (.b 1 (.o [.mv 14 (.t 5),
      .mv 15 (.t 0),
      .mv 16 (.t 6),
      .bn 17 .mul (.c (.i .i64 8)) (.t 16),
      .ci 18 .u64 (.t 17),
      .bn 19 .shr (.t 15) (.t 18),
      .ci 20 .u8 (.t 19),
      .lbs 21 (.i .u8 0) 1 1 [(0, (.t 20))],
      .ap 22 (.t 14) (.t 21) 1 1,
      .mv 5 (.t 22)]))
    (.o [.mv 12 (.t 6),
      .bn 13 .sub (.t 12) (.c (.i .i64 1)),
      .mv 6 (.t 13)]))))))
    (.q (.o [.mv 23 (.t 5),
      .cbs 24 (.t 23),
      .mv 4 (.t 24)])
    (.r))))⟩
abbrev n_spec_l02Put : Nat := 27
theorem k_spec_l02Put : chkF Go.Proofs.Tryd.prog c_spec_l02Put 27 = true := by kernel_rfl
/-- loop.example/s01858/impl.within -/
def c_impl_within : Fn := ⟨3, [(.t 6)],
    .q (.o [.mv 6 (.c (.b false))])
    (.q (.o [.mv 7 (.t 0),
      .mv 8 (.t 1),
      .bn 9 .geq (.t 7) (.t 8),
      .mv 10 (.t 9),
      .gd 10 true (.mv 11 (.t 0)),
      .gd 10 true (.mv 12 (.t 2)),
      .gd 10 true (.bn 13 .leq (.t 11) (.t 12)),
      .pk 14 (.t 10) (.t 13) (.c (.b false)),
      .mv 6 (.t 14)])
    (.r))⟩
abbrev n_impl_within : Nat := 28
theorem k_impl_within : chkF Go.Proofs.Tryd.prog c_impl_within 28 = true := by kernel_rfl
/-- loop.example/s01858/impl.p16 -/
def c_impl_p16 : Fn := ⟨1, [(.t 2)],
    .q (.o [.mv 2 (.c (.s []))])
    (.q (.o [.mv 3 (.t 0),
      .bn 4 .shr (.t 3) (.c (.i .u64 8)),
      .ci 5 .u8 (.t 4),
      .mv 6 (.t 0),
      .ci 7 .u8 (.t 6),
      .bs 8 (.i .u8 0) 1 2 [(0, (.t 5)), (1, (.t 7))],
      .cbs 9 (.t 8),
      .mv 2 (.t 9)])
    (.r))⟩
abbrev n_impl_p16 : Nat := 29
theorem k_impl_p16 : chkF Go.Proofs.Tryd.prog c_impl_p16 29 = true := by kernel_rfl
/-- loop.example/s01858/laws.eqRR -/
def c_laws_eqRR : Fn := ⟨2, [(.t 4)],
    .q (.o [.lbx 2 (.t 0),
      .lbx 3 (.t 1),
      .mv 4 (.c (.b false))])
    (.q (.q (.o [.fa 5 (.t 2) 0,
      .ld 6 (.t 5) none,
      .fa 7 (.t 3) 0,
      .ld 8 (.t 7) none,
      .bn 9 .neq (.t 6) (.t 8)])
    (.i (.t 9) (.q (.o [.mv 4 (.c (.b false))])
    (.r))
    (.k)))
    (.q (.q (.o [.fa 10 (.t 2) 1,
      .ld 11 (.t 10) none,
      .fa 12 (.t 3) 1,
      .ld 13 (.t 12) none,
      .bn 14 .neq (.t 11) (.t 13)])
    (.i (.t 14) (.q (.o [.mv 4 (.c (.b false))])
    (.r))
    (.k)))
    (.q (.q (.o [.fa 15 (.t 2) 2,
      .ld 16 (.t 15) none,
      .fa 17 (.t 3) 2,
      .ld 18 (.t 17) none,
      .bn 19 .neq (.t 16) (.t 18)])
    (.i (.t 19) (.q (.o [.mv 4 (.c (.b false))])
    (.r))
    (.k)))
    (.q (.q (.o [.fa 20 (.t 2) 3,
      .ld 21 (.t 20) none,
      .fa 22 (.t 3) 3,
      .ld 23 (.t 22) none,
      .bn 24 .neq (.t 21) (.t 23)])
    (.i (.t 24) (.q (.o [.mv 4 (.c (.b false))])
    (.r))
    (.k)))
    (.q (.q (.o [.fa 25 (.t 2) 4,
      .ld 26 (.t 25) none,
      .fa 27 (.t 3) 4,
      .ld 28 (.t 27) none,
      .bn 29 .neq (.t 26) (.t 28)])
    (.i (.t 29) (.q (.o [.mv 4 (.c (.b false))])
    (.r))
    (.k)))
    (.q (.o [.mv 4 (.c (.b true))])
    (.r)))))))⟩
abbrev n_laws_eqRR : Nat := 81
theorem k_laws_eqRR : chkF Go.Proofs.Tryd.prog c_laws_eqRR 81 = true := by kernel_rfl
/-- loop.example/s01858/laws.szOption (not in this seat) -/
def c_laws_szOption : Fn := ⟨2, [(.t 4)],
    .q (.o [.lbx 2 (.t 0),
      .mv 4 (.c (.i .i64 0))])
    (.q (.o [.mv 5 (.t 1),
      .fa 6 (.t 2) 1,
      .ld 7 (.t 6) none,
      .lns 8 (.t 7),
      .bn 9 .sub (.t 5) (.t 8),
      .mv 1 (.t 9)])
    (.q (.q (.o [.mv 10 (.t 1),
      .bn 11 .lss (.t 10) (.c (.i .i64 0))])
    (.i (.t 11) (.q (.o [.mv 4 (.c (.i .i64 (-1)))])
    (.r))
    (.k)))
    (.q (.o [.mv 12 (.t 1),
      .mv 4 (.t 12)])
    (.r))))⟩
abbrev n_laws_szOption : Nat := 100031
/-- loop.example/s01858/laws.szOptionS (not in this seat) -/
def c_laws_szOptionS : Fn := ⟨2, [(.t 4)],
    .q (.o [.mv 4 (.c (.i .i64 0))])
    (.q (.o [.mv 6 (.t 1),
      .mv 7 (.t 0),
      .ln 8 (.t 7),
      .bn 9 .sub (.t 6) (.t 8),
      .mv 1 (.t 9)])
    (.q (.q (.o [.mv 10 (.t 1),
      .bn 11 .lss (.t 10) (.c (.i .i64 0))])
    (.i (.t 11) (.q (.o [.mv 4 (.c (.i .i64 (-1)))])
    (.r))
    (.k)))
    (.q (.q (.o [.mv 5 (.c (.i .i64 0))])
    (.b 0 (.l [0, 1, 5] (.q (.q (.o [.mv 12 (.t 5),
      .mv 13 (.t 0),
      .ln 14 (.t 13),
      .bn 15 .lss (.t 12) (.t 14)])
    (.i (.t 15) (.k)
    (.x 0)))
    (.q (.b 1 (.q (.o [.mv 18 (.t 0),
      .mv 19 (.t 5),
      .ia 20 (.t 18) (.t 19) 2,
      .ld 21 (.t 20) (some 2),
      .mv 22 (.t 1),
      .cl (some 23) 31 [(.t 21), (.t 22)],
      .mv 1 (.t 23)])
    (.q (.o [.mv 24 (.t 1),
      .bn 25 .lss (.t 24) (.c (.i .i64 0))])
    (.i (.t 25) (.q (.o [.mv 4 (.c (.i .i64 (-1)))])
    (.r))
    (.k)))))
    (.o [.mv 16 (.t 5),
      .bn 17 .add (.t 16) (.c (.i .i64 1)),
      .mv 5 (.t 17)]))))))
    (.q (.o [.mv 26 (.t 1),
      .mv 4 (.t 26)])
    (.r)))))⟩
abbrev n_laws_szOptionS : Nat := 100015
/-- loop.example/s01858/laws.toOption (not in this seat) -/
def c_laws_toOption : Fn := ⟨1, [(.c 2 (some 2))],
    .q (.o [.lbx 1 (.t 0),
      .lal 2 (.ag [(.i .i64 0), (.s [])])])
    (.q (.o [.lal 3 (.ag [(.i .i64 0), (.s [])])])
    (.q (.o [.fa 4 (.t 1) 0,
      .ld 5 (.t 4) none,
      .fa 6 (.t 3) 0,
      .st (.t 6) (.t 5) 1])
    (.q (.o [.fa 7 (.t 1) 1,
      .ld 8 (.t 7) none,
      .fa 9 (.t 3) 1,
      .st (.t 9) (.t 8) 1])
    (.q (.o [.ld 10 (.t 3) (some 2),
      .st (.t 2) (.t 10) 2])
    (.r)))))⟩
abbrev n_laws_toOption : Nat := 100034
/-- loop.example/s01858/laws.toOptionS (not in this seat) -/
def c_laws_toOptionS : Fn := ⟨1, [(.t 2)],
    .q (.o [.mv 2 (.c .ns)])
    (.q (.o [.mv 5 (.t 0),
      .ln 6 (.t 5),
      .mk 7 (.ag [(.i .i64 0), (.s [])]) 2 24 (.t 6),
      .mv 3 (.t 7)])
    (.q (.q (.o [.mv 4 (.c (.i .i64 0))])
    (.b 0 (.l [0, 3, 4] (.q (.q (.o [.mv 8 (.t 4),
      .mv 9 (.t 0),
      .ln 10 (.t 9),
      .bn 11 .lss (.t 8) (.t 10)])
    (.i (.t 11) (.k)
    (.x 0)))
    (.q (.b 1 (.o [.mv 14 (.t 3),
      .mv 15 (.t 4),
      .mv 16 (.t 0),
      .mv 17 (.t 4),
      .ia 18 (.t 16) (.t 17) 2,
      .ld 19 (.t 18) (some 2),
      .cl (some 20) 34 [(.t 19)],
      .ia 21 (.t 14) (.t 15) 2,
      .st (.t 21) (.t 20) 2]))
    (.o [.mv 12 (.t 4),
      .bn 13 .add (.t 12) (.c (.i .i64 1)),
      .mv 4 (.t 13)]))))))
    (.q (.o [.mv 22 (.t 3),
      .mv 2 (.t 22)])
    (.r))))⟩
abbrev n_laws_toOptionS : Nat := 100017
/-- loop.example/s01858/laws.eqOption (not in this seat) -/
def c_laws_eqOption : Fn := ⟨2, [(.t 4)],
    .q (.o [.lbx 2 (.t 0),
      .lbx 3 (.t 1),
      .mv 4 (.c (.b false))])
    (.q (.q (.o [.fa 5 (.t 2) 0,
      .ld 6 (.t 5) none,
      .fa 7 (.t 3) 0,
      .ld 8 (.t 7) none,
      .bn 9 .neq (.t 6) (.t 8)])
    (.i (.t 9) (.q (.o [.mv 4 (.c (.b false))])
    (.r))
    (.k)))
    (.q (.q (.o [.fa 10 (.t 2) 1,
      .ld 11 (.t 10) none,
      .fa 12 (.t 3) 1,
      .ld 13 (.t 12) none,
      .bn 14 .neq (.t 11) (.t 13)])
    (.i (.t 14) (.q (.o [.mv 4 (.c (.b false))])
    (.r))
    (.k)))
    (.q (.o [.mv 4 (.c (.b true))])
    (.r))))⟩
abbrev n_laws_eqOption : Nat := 100037
/-- loop.example/s01858/laws.eqOptionS (not in this seat) -/
def c_laws_eqOptionS : Fn := ⟨2, [(.t 4)],
    .q (.o [.mv 4 (.c (.b false))])
    (.q (.q (.o [.mv 6 (.t 0),
      .ln 7 (.t 6),
      .mv 8 (.t 1),
      .ln 9 (.t 8),
      .bn 10 .neq (.t 7) (.t 9)])
    (.i (.t 10) (.q (.o [.mv 4 (.c (.b false))])
    (.r))
    (.k)))
    (.q (.q (.o [.mv 5 (.c (.i .i64 0))])
    (.b 0 (.l [0, 1, 5] (.q (.q (.o [.mv 11 (.t 5),
      .mv 12 (.t 0),
      .ln 13 (.t 12),
      .bn 14 .lss (.t 11) (.t 13)])
    (.i (.t 14) (.k)
    (.x 0)))
    (.q (.b 1 (.q (.p [⟨.mv 17 (.t 0), [], false⟩,
      ⟨.mv 18 (.t 5), [], false⟩,
      ⟨.ia 19 (.t 17) (.t 18) 2, [], false⟩,
      ⟨.ld 20 (.t 19) (some 2), [], false⟩,
      ⟨.mv 21 (.t 1), [], false⟩,
      ⟨.mv 22 (.t 5), [], false⟩,
      ⟨.ia 23 (.t 21) (.t 22) 2, [], false⟩,
      ⟨.ld 24 (.t 23) (some 2), [], false⟩,
      ⟨.cl (some 25) 37 [(.t 20), (.t 24)], [], false⟩,
      ⟨.un 26 .not (.t 25), [], false⟩])
    (.i (.t 26) (.q (.o [.mv 4 (.c (.b false))])
    (.r))
    (.k))))
    (.o [.mv 15 (.t 5),
      .bn 16 .add (.t 15) (.c (.i .i64 1)),
      .mv 5 (.t 16)]))))))
    (.q (.o [.mv 4 (.c (.b true))])
    (.r))))⟩
abbrev n_laws_eqOptionS : Nat := 100020
/-- loop.example/s01858/laws.FnExactEdnsRecord (not in this seat) -/
def c_laws_FnExactEdnsRecord : Fn := ⟨4, [(.t 8)],
    .q (.o [.mv 8 (.c (.b false))])
    (.q (.o [.mv 9 (.c (.i .i64 1048576))])
    (.q (.o [.mv 15 (.t 3),
      .mv 16 (.t 9),
      .cl (some 17) 15 [(.t 15), (.t 16)],
      .mv 9 (.t 17)])
    (.q (.q (.o [.mv 18 (.t 9),
      .bn 19 .lss (.t 18) (.c (.i .i64 0))])
    (.i (.t 19) (.q (.o [.mv 8 (.c (.b true))])
    (.r))
    (.k)))
    (.q (.o [.mv 21 (.t 0),
      .mv 22 (.t 1),
      .mv 23 (.t 2),
      .mv 24 (.t 3),
      .cl (some 25) 17 [(.t 24)],
      .cl (some 26) 16 [(.t 21), (.t 22), (.t 23), (.t 25)],
      .mv 20 (.t 26),
      .ex 27 (.t 20) 0,
      .ex 28 (.t 20) 1,
      .lal 10 (.ag [(.s []), (.i .i64 0), (.i .i64 0), (.i .i64 0), (.s [])]),
      .st (.t 10) (.t 27) 5,
      .mv 11 (.t 28)])
    (.q (.o [.mv 29 (.t 3),
      .cl (some 30) 17 [(.t 29)],
      .mv 12 (.t 30)])
    (.q (.o [.mv 32 (.t 0),
      .mv 33 (.t 1),
      .mv 34 (.t 2),
      .mv 35 (.t 12),
      .cl (some 36) 18 [(.t 32), (.t 33), (.t 34), (.t 35)],
      .mv 31 (.t 36),
      .ex 37 (.t 31) 0,
      .ex 38 (.t 31) 1,
      .lal 13 (.ag [(.s []), (.i .i64 0), (.i .i64 0), (.i .i64 0), (.s [])]),
      .st (.t 13) (.t 37) 5,
      .mv 14 (.t 38)])
    (.q (.q (.o [.ld 39 (.t 13) (some 5),
      .ld 40 (.t 10) (some 5),
      .cl (some 41) 19 [(.t 39), (.t 40)],
      .un 42 .not (.t 41),
      .mv 43 (.t 42),
      .gd 43 false (.mv 44 (.t 14)),
      .gd 43 false (.mv 45 (.t 11)),
      .gd 43 false (.bn 46 .neq (.t 44) (.t 45)),
      .pk 47 (.t 43) (.c (.b true)) (.t 46)])
    (.i (.t 47) (.q (.o [.mv 8 (.c (.b false))])
    (.r))
    (.k)))
    (.q (.q (.o [.mv 48 (.t 12),
      .mv 49 (.t 3),
      .cl (some 50) 17 [(.t 49)],
      .cl (some 51) 20 [(.t 48), (.t 50)],
      .un 52 .not (.t 51)])
    (.i (.t 52) (.q (.o [.mv 8 (.c (.b false))])
    (.r))
    (.k)))
    (.q (.o [.mv 8 (.c (.b true))])
    (.r))))))))))⟩
abbrev n_laws_FnExactEdnsRecord : Nat := 10004
end Go.Vm

/- Runs of helpers of EdnsRecord. -/
namespace Go.Vm
set_option linter.unusedVariables false
set_option linter.unusedSimpArgs false
/-- An option: its cells. -/
def encO (o : Int × List UInt8) : AV := .ag [.i .i64 o.1, .s o.2]
theorem Mb.new2 {H : AH} {l : List UInt8} {n : Nat} (h : l.length = n) : Mb (H.new (.arr true 0 1 (encB l))) (.sl H.n 0 n) l := by
  subst h
  have := Mn.own (H := H.new (.arr true 0 1 (encB l))) (z := 1) (by simp) new_at
  rwa [enc_len] at this
section
variable {C : Tab}
theorem r_szOption {o : Int × List UInt8} {left : Int} {H : AH} (h : 0 ≤ left) (hl : left ≤ 1099511627776) (hd : o.2.length ≤ 9223372036854775807) : Runs C c_laws_szOption [encO o, .i .i64 left] H fun v H' => H' = H ∧ v = .i .i64 (if left - o.2.length < 0 then -1 else left - o.2.length) := by
  unfold Runs c_laws_szOption encO
  have hw : IntKind.i64.wrap (left - (o.2.length : Int)) = left - (o.2.length : Int) := w64 (by omega) (by omega)
  by_cases hn : left - (o.2.length : Int) < 0
  · simp only [x_q, x_o, x_b, x_k, x_x, x_r, x_it, x_if, x_p, p_nil, p_on, p_off, p_mv, p_pk, p_bn, p_un, p_be, p_nl, p_eqa, p_ci, p_cbs, p_csb, p_ex, p_bd, p_fd, p_ix, p_ixa, p_ss, p_sl, p_sla, p_ln, p_lns, p_lnm, p_al, p_bx, p_lal, p_lbx, p_ld, p_st, p_fa, p_ia, p_iaa, p_bs, p_lbs, p_mk, p_ap, p_cp, p_cl, p_cv, p_mf, p_nc, p_mm, p_mkm, p_lk, p_mu, p_dl, p_rs, p_nx, cfC, lgPut, isOk, rv, rh, Bool.false_eq_true, d_nil, d_on, d_off, d_mv, d_pk, d_bn, d_un, d_be, d_nl, d_eqa, d_ci, d_cbs, d_csb, d_ex, d_bd, d_fd, d_ix, d_ixa, d_ss, d_sl, d_sla, d_ln, d_lns, d_lnm, d_al, d_bx, d_lal, d_lbx, d_ld, d_st, d_fa, d_ia, d_iaa, d_bs, d_lbs, d_mk, d_ap, d_cp, d_cl, d_cv, d_mf, d_nc, d_mm, d_mkm, d_lk, d_mu, d_dl, d_rs, d_nx, okO, vlO, mmO, dsO, putE, args, evT, evs, evO, look, kOps, kSeq, kBlk, keepE, reduceIte, Nat.reduceEqDiff, binC, binV, intC, intV, strC, strV, unC, unV, AV.isI, AV.isB, AV.isS, AV.toI, AV.toK, AV.toS, allOut, o_b, o_i, o_s, o_np, o_pv, o_pe, o_ns, o_sl, o_nm, o_mp, o_nf, o_fn, o_ag, q_b, q_i, q_s, q_np, q_pv, q_pe, q_ns, q_sl, q_nm, q_mp, q_nf, q_fn, q_ag, Bool.and_true, Bool.and_self, Bool.true_and, AV.b.injEq, decide_eq_true_eq, decide_eq_false_iff_not, true_and, and_true, and_self, reduceCtorEq, imp_self, implies_true, forall_const, eq_self, ex_tp, ex_ag, List.getD_cons_zero, List.getD_cons_succ, List.length_cons, List.length_nil, Nat.reduceAdd, Nat.reduceLT, Nat.zero_add, bne_self_eq_false, decide_true, decide_false, eq_self, true_implies, false_implies, forall_const, Bool.true_eq_false, Bool.not_true, Bool.not_false, not_true_eq_false, not_false_eq_true, if_true, if_false, pickV, cond_true, cond_false, boolV, fillEC, fillE, List.replicate, List.set, Mem.newL, Mem.keep, Int.reduceToNat, Nat.reduceSub, List.drop_zero, Int.reduceLE, Int.le_refl, Nat.sub_zero, Mem.newL, Mem.newL, Mem.getL, Mem.hasL, lookL, setL, dropL, keepL, memN, la_faC, la_faV, la_ldC, la_ldX, la_stC, la_stM, partOf, partFits, setEl, setPart, Option.isSome_some, Option.getD_some, List.take_succ_cons, List.take_zero, List.drop_succ_cons, List.drop_zero, List.nil_append, List.cons_append, List.getD_cons_zero, List.getD_cons_succ, List.length_cons, List.length_nil, List.set_cons_zero, List.append_nil, List.drop_nil, List.take_nil, Nat.reduceAdd, Nat.reduceLT, Nat.reduceLeDiff, Nat.zero_add, Nat.add_zero, Nat.lt_add_one, Nat.le_refl, Nat.zero_le, Nat.zero_lt_succ, fillP, fillC, Nat.reduceLeDiff, lgAt, isRd, hw, hn, endK, rsC, rsV, resV]
  · simp only [x_q, x_o, x_b, x_k, x_x, x_r, x_it, x_if, x_p, p_nil, p_on, p_off, p_mv, p_pk, p_bn, p_un, p_be, p_nl, p_eqa, p_ci, p_cbs, p_csb, p_ex, p_bd, p_fd, p_ix, p_ixa, p_ss, p_sl, p_sla, p_ln, p_lns, p_lnm, p_al, p_bx, p_lal, p_lbx, p_ld, p_st, p_fa, p_ia, p_iaa, p_bs, p_lbs, p_mk, p_ap, p_cp, p_cl, p_cv, p_mf, p_nc, p_mm, p_mkm, p_lk, p_mu, p_dl, p_rs, p_nx, cfC, lgPut, isOk, rv, rh, Bool.false_eq_true, d_nil, d_on, d_off, d_mv, d_pk, d_bn, d_un, d_be, d_nl, d_eqa, d_ci, d_cbs, d_csb, d_ex, d_bd, d_fd, d_ix, d_ixa, d_ss, d_sl, d_sla, d_ln, d_lns, d_lnm, d_al, d_bx, d_lal, d_lbx, d_ld, d_st, d_fa, d_ia, d_iaa, d_bs, d_lbs, d_mk, d_ap, d_cp, d_cl, d_cv, d_mf, d_nc, d_mm, d_mkm, d_lk, d_mu, d_dl, d_rs, d_nx, okO, vlO, mmO, dsO, putE, args, evT, evs, evO, look, kOps, kSeq, kBlk, keepE, reduceIte, Nat.reduceEqDiff, binC, binV, intC, intV, strC, strV, unC, unV, AV.isI, AV.isB, AV.isS, AV.toI, AV.toK, AV.toS, allOut, o_b, o_i, o_s, o_np, o_pv, o_pe, o_ns, o_sl, o_nm, o_mp, o_nf, o_fn, o_ag, q_b, q_i, q_s, q_np, q_pv, q_pe, q_ns, q_sl, q_nm, q_mp, q_nf, q_fn, q_ag, Bool.and_true, Bool.and_self, Bool.true_and, AV.b.injEq, decide_eq_true_eq, decide_eq_false_iff_not, true_and, and_true, and_self, reduceCtorEq, imp_self, implies_true, forall_const, eq_self, ex_tp, ex_ag, List.getD_cons_zero, List.getD_cons_succ, List.length_cons, List.length_nil, Nat.reduceAdd, Nat.reduceLT, Nat.zero_add, bne_self_eq_false, decide_true, decide_false, eq_self, true_implies, false_implies, forall_const, Bool.true_eq_false, Bool.not_true, Bool.not_false, not_true_eq_false, not_false_eq_true, if_true, if_false, pickV, cond_true, cond_false, boolV, fillEC, fillE, List.replicate, List.set, Mem.newL, Mem.keep, Int.reduceToNat, Nat.reduceSub, List.drop_zero, Int.reduceLE, Int.le_refl, Nat.sub_zero, Mem.newL, Mem.newL, Mem.getL, Mem.hasL, lookL, setL, dropL, keepL, memN, la_faC, la_faV, la_ldC, la_ldX, la_stC, la_stM, partOf, partFits, setEl, setPart, Option.isSome_some, Option.getD_some, List.take_succ_cons, List.take_zero, List.drop_succ_cons, List.drop_zero, List.nil_append, List.cons_append, List.getD_cons_zero, List.getD_cons_succ, List.length_cons, List.length_nil, List.set_cons_zero, List.append_nil, List.drop_nil, List.take_nil, Nat.reduceAdd, Nat.reduceLT, Nat.reduceLeDiff, Nat.zero_add, Nat.add_zero, Nat.lt_add_one, Nat.le_refl, Nat.zero_le, Nat.zero_lt_succ, fillP, fillC, Nat.reduceLeDiff, lgAt, isRd, hw, hn, endK, rsC, rsV, resV]
theorem r_toOption {o : Int × List UInt8} {H : AH} : Runs C c_laws_toOption [encO o] H fun v H' => H' = H ∧ v = encO o := by
  unfold Runs c_laws_toOption encO
  simp only [x_q, x_o, x_b, x_k, x_x, x_r, x_it, x_if, x_p, p_nil, p_on, p_off, p_mv, p_pk, p_bn, p_un, p_be, p_nl, p_eqa, p_ci, p_cbs, p_csb, p_ex, p_bd, p_fd, p_ix, p_ixa, p_ss, p_sl, p_sla, p_ln, p_lns, p_lnm, p_al, p_bx, p_lal, p_lbx, p_ld, p_st, p_fa, p_ia, p_iaa, p_bs, p_lbs, p_mk, p_ap, p_cp, p_cl, p_cv, p_mf, p_nc, p_mm, p_mkm, p_lk, p_mu, p_dl, p_rs, p_nx, cfC, lgPut, isOk, rv, rh, Bool.false_eq_true, d_nil, d_on, d_off, d_mv, d_pk, d_bn, d_un, d_be, d_nl, d_eqa, d_ci, d_cbs, d_csb, d_ex, d_bd, d_fd, d_ix, d_ixa, d_ss, d_sl, d_sla, d_ln, d_lns, d_lnm, d_al, d_bx, d_lal, d_lbx, d_ld, d_st, d_fa, d_ia, d_iaa, d_bs, d_lbs, d_mk, d_ap, d_cp, d_cl, d_cv, d_mf, d_nc, d_mm, d_mkm, d_lk, d_mu, d_dl, d_rs, d_nx, okO, vlO, mmO, dsO, putE, args, evT, evs, evO, look, kOps, kSeq, kBlk, keepE, reduceIte, Nat.reduceEqDiff, binC, binV, intC, intV, strC, strV, unC, unV, AV.isI, AV.isB, AV.isS, AV.toI, AV.toK, AV.toS, allOut, o_b, o_i, o_s, o_np, o_pv, o_pe, o_ns, o_sl, o_nm, o_mp, o_nf, o_fn, o_ag, q_b, q_i, q_s, q_np, q_pv, q_pe, q_ns, q_sl, q_nm, q_mp, q_nf, q_fn, q_ag, Bool.and_true, Bool.and_self, Bool.true_and, AV.b.injEq, decide_eq_true_eq, decide_eq_false_iff_not, true_and, and_true, and_self, reduceCtorEq, imp_self, implies_true, forall_const, eq_self, ex_tp, ex_ag, List.getD_cons_zero, List.getD_cons_succ, List.length_cons, List.length_nil, Nat.reduceAdd, Nat.reduceLT, Nat.zero_add, bne_self_eq_false, decide_true, decide_false, eq_self, true_implies, false_implies, forall_const, Bool.true_eq_false, Bool.not_true, Bool.not_false, not_true_eq_false, not_false_eq_true, if_true, if_false, pickV, cond_true, cond_false, boolV, fillEC, fillE, List.replicate, List.set, Mem.newL, Mem.keep, Int.reduceToNat, Nat.reduceSub, List.drop_zero, Int.reduceLE, Int.le_refl, Nat.sub_zero, Mem.newL, Mem.newL, Mem.getL, Mem.hasL, lookL, setL, dropL, keepL, memN, la_faC, la_faV, la_ldC, la_ldX, la_stC, la_stM, partOf, partFits, setEl, setPart, Option.isSome_some, Option.getD_some, List.take_succ_cons, List.take_zero, List.drop_succ_cons, List.drop_zero, List.nil_append, List.cons_append, List.getD_cons_zero, List.getD_cons_succ, List.length_cons, List.length_nil, List.set_cons_zero, List.append_nil, List.drop_nil, List.take_nil, Nat.reduceAdd, Nat.reduceLT, Nat.reduceLeDiff, Nat.zero_add, Nat.add_zero, Nat.lt_add_one, Nat.le_refl, Nat.zero_le, Nat.zero_lt_succ, fillP, fillC, Nat.reduceLeDiff, lgAt, isRd, endK, rsC, rsV, resV]
theorem r_eqOption {o : Int × List UInt8} {H : AH} : Runs C c_laws_eqOption [encO o, encO o] H fun v H' => H' = H ∧ v = .b true := by
  unfold Runs c_laws_eqOption encO
  simp only [x_q, x_o, x_b, x_k, x_x, x_r, x_it, x_if, x_p, p_nil, p_on, p_off, p_mv, p_pk, p_bn, p_un, p_be, p_nl, p_eqa, p_ci, p_cbs, p_csb, p_ex, p_bd, p_fd, p_ix, p_ixa, p_ss, p_sl, p_sla, p_ln, p_lns, p_lnm, p_al, p_bx, p_lal, p_lbx, p_ld, p_st, p_fa, p_ia, p_iaa, p_bs, p_lbs, p_mk, p_ap, p_cp, p_cl, p_cv, p_mf, p_nc, p_mm, p_mkm, p_lk, p_mu, p_dl, p_rs, p_nx, cfC, lgPut, isOk, rv, rh, Bool.false_eq_true, d_nil, d_on, d_off, d_mv, d_pk, d_bn, d_un, d_be, d_nl, d_eqa, d_ci, d_cbs, d_csb, d_ex, d_bd, d_fd, d_ix, d_ixa, d_ss, d_sl, d_sla, d_ln, d_lns, d_lnm, d_al, d_bx, d_lal, d_lbx, d_ld, d_st, d_fa, d_ia, d_iaa, d_bs, d_lbs, d_mk, d_ap, d_cp, d_cl, d_cv, d_mf, d_nc, d_mm, d_mkm, d_lk, d_mu, d_dl, d_rs, d_nx, okO, vlO, mmO, dsO, putE, args, evT, evs, evO, look, kOps, kSeq, kBlk, keepE, reduceIte, Nat.reduceEqDiff, binC, binV, intC, intV, strC, strV, unC, unV, AV.isI, AV.isB, AV.isS, AV.toI, AV.toK, AV.toS, allOut, o_b, o_i, o_s, o_np, o_pv, o_pe, o_ns, o_sl, o_nm, o_mp, o_nf, o_fn, o_ag, q_b, q_i, q_s, q_np, q_pv, q_pe, q_ns, q_sl, q_nm, q_mp, q_nf, q_fn, q_ag, Bool.and_true, Bool.and_self, Bool.true_and, AV.b.injEq, decide_eq_true_eq, decide_eq_false_iff_not, true_and, and_true, and_self, reduceCtorEq, imp_self, implies_true, forall_const, eq_self, ex_tp, ex_ag, List.getD_cons_zero, List.getD_cons_succ, List.length_cons, List.length_nil, Nat.reduceAdd, Nat.reduceLT, Nat.zero_add, bne_self_eq_false, decide_true, decide_false, eq_self, true_implies, false_implies, forall_const, Bool.true_eq_false, Bool.not_true, Bool.not_false, not_true_eq_false, not_false_eq_true, if_true, if_false, pickV, cond_true, cond_false, boolV, fillEC, fillE, List.replicate, List.set, Mem.newL, Mem.keep, Int.reduceToNat, Nat.reduceSub, List.drop_zero, Int.reduceLE, Int.le_refl, Nat.sub_zero, Mem.newL, Mem.newL, Mem.getL, Mem.hasL, lookL, setL, dropL, keepL, memN, la_faC, la_faV, la_ldC, la_ldX, la_stC, la_stM, partOf, partFits, setEl, setPart, Option.isSome_some, Option.getD_some, List.take_succ_cons, List.take_zero, List.drop_succ_cons, List.drop_zero, List.nil_append, List.cons_append, List.getD_cons_zero, List.getD_cons_succ, List.length_cons, List.length_nil, List.set_cons_zero, List.append_nil, List.drop_nil, List.take_nil, Nat.reduceAdd, Nat.reduceLT, Nat.reduceLeDiff, Nat.zero_add, Nat.add_zero, Nat.lt_add_one, Nat.le_refl, Nat.zero_le, Nat.zero_lt_succ, fillP, fillC, Nat.reduceLeDiff, lgAt, isRd, endK, rsC, rsV, resV]
/-- A record: its cells. -/
structure Rr where
  o : List UInt8
  t : Int
  c : Int
  ttl : Int
  d : List UInt8
def encR (r : Rr) : AV := .ag [.s r.o, .i .i64 r.t, .i .i64 r.c, .i .i64 r.ttl, .s r.d]
theorem r_eqRR {r : Rr} {H : AH} : Runs C c_laws_eqRR [encR r, encR r] H fun v H' => H' = H ∧ v = .b true := by
  unfold Runs c_laws_eqRR encR
  simp only [x_q, x_o, x_b, x_k, x_x, x_r, x_it, x_if, x_p, p_nil, p_on, p_off, p_mv, p_pk, p_bn, p_un, p_be, p_nl, p_eqa, p_ci, p_cbs, p_csb, p_ex, p_bd, p_fd, p_ix, p_ixa, p_ss, p_sl, p_sla, p_ln, p_lns, p_lnm, p_al, p_bx, p_lal, p_lbx, p_ld, p_st, p_fa, p_ia, p_iaa, p_bs, p_lbs, p_mk, p_ap, p_cp, p_cl, p_cv, p_mf, p_nc, p_mm, p_mkm, p_lk, p_mu, p_dl, p_rs, p_nx, cfC, lgPut, isOk, rv, rh, Bool.false_eq_true, d_nil, d_on, d_off, d_mv, d_pk, d_bn, d_un, d_be, d_nl, d_eqa, d_ci, d_cbs, d_csb, d_ex, d_bd, d_fd, d_ix, d_ixa, d_ss, d_sl, d_sla, d_ln, d_lns, d_lnm, d_al, d_bx, d_lal, d_lbx, d_ld, d_st, d_fa, d_ia, d_iaa, d_bs, d_lbs, d_mk, d_ap, d_cp, d_cl, d_cv, d_mf, d_nc, d_mm, d_mkm, d_lk, d_mu, d_dl, d_rs, d_nx, okO, vlO, mmO, dsO, putE, args, evT, evs, evO, look, kOps, kSeq, kBlk, keepE, reduceIte, Nat.reduceEqDiff, binC, binV, intC, intV, strC, strV, unC, unV, AV.isI, AV.isB, AV.isS, AV.toI, AV.toK, AV.toS, allOut, o_b, o_i, o_s, o_np, o_pv, o_pe, o_ns, o_sl, o_nm, o_mp, o_nf, o_fn, o_ag, q_b, q_i, q_s, q_np, q_pv, q_pe, q_ns, q_sl, q_nm, q_mp, q_nf, q_fn, q_ag, Bool.and_true, Bool.and_self, Bool.true_and, AV.b.injEq, decide_eq_true_eq, decide_eq_false_iff_not, true_and, and_true, and_self, reduceCtorEq, imp_self, implies_true, forall_const, eq_self, ex_tp, ex_ag, List.getD_cons_zero, List.getD_cons_succ, List.length_cons, List.length_nil, Nat.reduceAdd, Nat.reduceLT, Nat.zero_add, bne_self_eq_false, decide_true, decide_false, eq_self, true_implies, false_implies, forall_const, Bool.true_eq_false, Bool.not_true, Bool.not_false, not_true_eq_false, not_false_eq_true, if_true, if_false, pickV, cond_true, cond_false, boolV, fillEC, fillE, List.replicate, List.set, Mem.newL, Mem.keep, Int.reduceToNat, Nat.reduceSub, List.drop_zero, Int.reduceLE, Int.le_refl, Nat.sub_zero, Mem.newL, Mem.newL, Mem.getL, Mem.hasL, lookL, setL, dropL, keepL, memN, la_faC, la_faV, la_ldC, la_ldX, la_stC, la_stM, partOf, partFits, setEl, setPart, Option.isSome_some, Option.getD_some, List.take_succ_cons, List.take_zero, List.drop_succ_cons, List.drop_zero, List.nil_append, List.cons_append, List.getD_cons_zero, List.getD_cons_succ, List.length_cons, List.length_nil, List.set_cons_zero, List.append_nil, List.drop_nil, List.take_nil, Nat.reduceAdd, Nat.reduceLT, Nat.reduceLeDiff, Nat.zero_add, Nat.add_zero, Nat.lt_add_one, Nat.le_refl, Nat.zero_le, Nat.zero_lt_succ, fillP, fillC, Nat.reduceLeDiff, lgAt, isRd, endK, rsC, rsV, resV]
theorem r_l04In {x m : Int} {H : AH} : Runs C c_spec_l04In [.i .i64 x, .i .i64 m] H fun v H' => H' = H ∧ v = .b (decide (0 ≤ x ∧ x ≤ m)) := by
  unfold Runs c_spec_l04In
  by_cases h : 0 ≤ x
  · by_cases h' : x ≤ m <;> simp only [x_q, x_o, x_b, x_k, x_x, x_r, x_it, x_if, x_p, p_nil, p_on, p_off, p_mv, p_pk, p_bn, p_un, p_be, p_nl, p_eqa, p_ci, p_cbs, p_csb, p_ex, p_bd, p_fd, p_ix, p_ixa, p_ss, p_sl, p_sla, p_ln, p_lns, p_lnm, p_al, p_bx, p_lal, p_lbx, p_ld, p_st, p_fa, p_ia, p_iaa, p_bs, p_lbs, p_mk, p_ap, p_cp, p_cl, p_cv, p_mf, p_nc, p_mm, p_mkm, p_lk, p_mu, p_dl, p_rs, p_nx, cfC, lgPut, isOk, rv, rh, Bool.false_eq_true, d_nil, d_on, d_off, d_mv, d_pk, d_bn, d_un, d_be, d_nl, d_eqa, d_ci, d_cbs, d_csb, d_ex, d_bd, d_fd, d_ix, d_ixa, d_ss, d_sl, d_sla, d_ln, d_lns, d_lnm, d_al, d_bx, d_lal, d_lbx, d_ld, d_st, d_fa, d_ia, d_iaa, d_bs, d_lbs, d_mk, d_ap, d_cp, d_cl, d_cv, d_mf, d_nc, d_mm, d_mkm, d_lk, d_mu, d_dl, d_rs, d_nx, okO, vlO, mmO, dsO, putE, args, evT, evs, evO, look, kOps, kSeq, kBlk, keepE, reduceIte, Nat.reduceEqDiff, binC, binV, intC, intV, strC, strV, unC, unV, AV.isI, AV.isB, AV.isS, AV.toI, AV.toK, AV.toS, allOut, o_b, o_i, o_s, o_np, o_pv, o_pe, o_ns, o_sl, o_nm, o_mp, o_nf, o_fn, o_ag, q_b, q_i, q_s, q_np, q_pv, q_pe, q_ns, q_sl, q_nm, q_mp, q_nf, q_fn, q_ag, Bool.and_true, Bool.and_self, Bool.true_and, AV.b.injEq, decide_eq_true_eq, decide_eq_false_iff_not, true_and, and_true, and_self, reduceCtorEq, imp_self, implies_true, forall_const, eq_self, ex_tp, ex_ag, List.getD_cons_zero, List.getD_cons_succ, List.length_cons, List.length_nil, Nat.reduceAdd, Nat.reduceLT, Nat.zero_add, bne_self_eq_false, decide_true, decide_false, eq_self, true_implies, false_implies, forall_const, Bool.true_eq_false, Bool.not_true, Bool.not_false, not_true_eq_false, not_false_eq_true, if_true, if_false, pickV, cond_true, cond_false, boolV, fillEC, fillE, List.replicate, List.set, Mem.newL, Mem.keep, Int.reduceToNat, Nat.reduceSub, List.drop_zero, Int.reduceLE, Int.le_refl, Nat.sub_zero, Mem.newL, Mem.newL, Mem.getL, Mem.hasL, lookL, setL, dropL, keepL, memN, la_faC, la_faV, la_ldC, la_ldX, la_stC, la_stM, partOf, partFits, setEl, setPart, Option.isSome_some, Option.getD_some, List.take_succ_cons, List.take_zero, List.drop_succ_cons, List.drop_zero, List.nil_append, List.cons_append, List.getD_cons_zero, List.getD_cons_succ, List.length_cons, List.length_nil, List.set_cons_zero, List.append_nil, List.drop_nil, List.take_nil, Nat.reduceAdd, Nat.reduceLT, Nat.reduceLeDiff, Nat.zero_add, Nat.add_zero, Nat.lt_add_one, Nat.le_refl, Nat.zero_le, Nat.zero_lt_succ, fillP, fillC, Nat.reduceLeDiff, lgAt, isRd, h, h', endK, rsC, rsV, resV]
  · simp only [x_q, x_o, x_b, x_k, x_x, x_r, x_it, x_if, x_p, p_nil, p_on, p_off, p_mv, p_pk, p_bn, p_un, p_be, p_nl, p_eqa, p_ci, p_cbs, p_csb, p_ex, p_bd, p_fd, p_ix, p_ixa, p_ss, p_sl, p_sla, p_ln, p_lns, p_lnm, p_al, p_bx, p_lal, p_lbx, p_ld, p_st, p_fa, p_ia, p_iaa, p_bs, p_lbs, p_mk, p_ap, p_cp, p_cl, p_cv, p_mf, p_nc, p_mm, p_mkm, p_lk, p_mu, p_dl, p_rs, p_nx, cfC, lgPut, isOk, rv, rh, Bool.false_eq_true, d_nil, d_on, d_off, d_mv, d_pk, d_bn, d_un, d_be, d_nl, d_eqa, d_ci, d_cbs, d_csb, d_ex, d_bd, d_fd, d_ix, d_ixa, d_ss, d_sl, d_sla, d_ln, d_lns, d_lnm, d_al, d_bx, d_lal, d_lbx, d_ld, d_st, d_fa, d_ia, d_iaa, d_bs, d_lbs, d_mk, d_ap, d_cp, d_cl, d_cv, d_mf, d_nc, d_mm, d_mkm, d_lk, d_mu, d_dl, d_rs, d_nx, okO, vlO, mmO, dsO, putE, args, evT, evs, evO, look, kOps, kSeq, kBlk, keepE, reduceIte, Nat.reduceEqDiff, binC, binV, intC, intV, strC, strV, unC, unV, AV.isI, AV.isB, AV.isS, AV.toI, AV.toK, AV.toS, allOut, o_b, o_i, o_s, o_np, o_pv, o_pe, o_ns, o_sl, o_nm, o_mp, o_nf, o_fn, o_ag, q_b, q_i, q_s, q_np, q_pv, q_pe, q_ns, q_sl, q_nm, q_mp, q_nf, q_fn, q_ag, Bool.and_true, Bool.and_self, Bool.true_and, AV.b.injEq, decide_eq_true_eq, decide_eq_false_iff_not, true_and, and_true, and_self, reduceCtorEq, imp_self, implies_true, forall_const, eq_self, ex_tp, ex_ag, List.getD_cons_zero, List.getD_cons_succ, List.length_cons, List.length_nil, Nat.reduceAdd, Nat.reduceLT, Nat.zero_add, bne_self_eq_false, decide_true, decide_false, eq_self, true_implies, false_implies, forall_const, Bool.true_eq_false, Bool.not_true, Bool.not_false, not_true_eq_false, not_false_eq_true, if_true, if_false, pickV, cond_true, cond_false, boolV, fillEC, fillE, List.replicate, List.set, Mem.newL, Mem.keep, Int.reduceToNat, Nat.reduceSub, List.drop_zero, Int.reduceLE, Int.le_refl, Nat.sub_zero, Mem.newL, Mem.newL, Mem.getL, Mem.hasL, lookL, setL, dropL, keepL, memN, la_faC, la_faV, la_ldC, la_ldX, la_stC, la_stM, partOf, partFits, setEl, setPart, Option.isSome_some, Option.getD_some, List.take_succ_cons, List.take_zero, List.drop_succ_cons, List.drop_zero, List.nil_append, List.cons_append, List.getD_cons_zero, List.getD_cons_succ, List.length_cons, List.length_nil, List.set_cons_zero, List.append_nil, List.drop_nil, List.take_nil, Nat.reduceAdd, Nat.reduceLT, Nat.reduceLeDiff, Nat.zero_add, Nat.add_zero, Nat.lt_add_one, Nat.le_refl, Nat.zero_le, Nat.zero_lt_succ, fillP, fillC, Nat.reduceLeDiff, lgAt, isRd, h, endK, rsC, rsV, resV, false_and]
theorem r_within {x lo m : Int} {H : AH} : Runs C c_impl_within [.i .i64 x, .i .i64 lo, .i .i64 m] H fun v H' => H' = H ∧ v = .b (decide (lo ≤ x ∧ x ≤ m)) := by
  unfold Runs c_impl_within
  by_cases h : lo ≤ x
  · by_cases h' : x ≤ m <;> simp only [x_q, x_o, x_b, x_k, x_x, x_r, x_it, x_if, x_p, p_nil, p_on, p_off, p_mv, p_pk, p_bn, p_un, p_be, p_nl, p_eqa, p_ci, p_cbs, p_csb, p_ex, p_bd, p_fd, p_ix, p_ixa, p_ss, p_sl, p_sla, p_ln, p_lns, p_lnm, p_al, p_bx, p_lal, p_lbx, p_ld, p_st, p_fa, p_ia, p_iaa, p_bs, p_lbs, p_mk, p_ap, p_cp, p_cl, p_cv, p_mf, p_nc, p_mm, p_mkm, p_lk, p_mu, p_dl, p_rs, p_nx, cfC, lgPut, isOk, rv, rh, Bool.false_eq_true, d_nil, d_on, d_off, d_mv, d_pk, d_bn, d_un, d_be, d_nl, d_eqa, d_ci, d_cbs, d_csb, d_ex, d_bd, d_fd, d_ix, d_ixa, d_ss, d_sl, d_sla, d_ln, d_lns, d_lnm, d_al, d_bx, d_lal, d_lbx, d_ld, d_st, d_fa, d_ia, d_iaa, d_bs, d_lbs, d_mk, d_ap, d_cp, d_cl, d_cv, d_mf, d_nc, d_mm, d_mkm, d_lk, d_mu, d_dl, d_rs, d_nx, okO, vlO, mmO, dsO, putE, args, evT, evs, evO, look, kOps, kSeq, kBlk, keepE, reduceIte, Nat.reduceEqDiff, binC, binV, intC, intV, strC, strV, unC, unV, AV.isI, AV.isB, AV.isS, AV.toI, AV.toK, AV.toS, allOut, o_b, o_i, o_s, o_np, o_pv, o_pe, o_ns, o_sl, o_nm, o_mp, o_nf, o_fn, o_ag, q_b, q_i, q_s, q_np, q_pv, q_pe, q_ns, q_sl, q_nm, q_mp, q_nf, q_fn, q_ag, Bool.and_true, Bool.and_self, Bool.true_and, AV.b.injEq, decide_eq_true_eq, decide_eq_false_iff_not, true_and, and_true, and_self, reduceCtorEq, imp_self, implies_true, forall_const, eq_self, ex_tp, ex_ag, List.getD_cons_zero, List.getD_cons_succ, List.length_cons, List.length_nil, Nat.reduceAdd, Nat.reduceLT, Nat.zero_add, bne_self_eq_false, decide_true, decide_false, eq_self, true_implies, false_implies, forall_const, Bool.true_eq_false, Bool.not_true, Bool.not_false, not_true_eq_false, not_false_eq_true, if_true, if_false, pickV, cond_true, cond_false, boolV, fillEC, fillE, List.replicate, List.set, Mem.newL, Mem.keep, Int.reduceToNat, Nat.reduceSub, List.drop_zero, Int.reduceLE, Int.le_refl, Nat.sub_zero, Mem.newL, Mem.newL, Mem.getL, Mem.hasL, lookL, setL, dropL, keepL, memN, la_faC, la_faV, la_ldC, la_ldX, la_stC, la_stM, partOf, partFits, setEl, setPart, Option.isSome_some, Option.getD_some, List.take_succ_cons, List.take_zero, List.drop_succ_cons, List.drop_zero, List.nil_append, List.cons_append, List.getD_cons_zero, List.getD_cons_succ, List.length_cons, List.length_nil, List.set_cons_zero, List.append_nil, List.drop_nil, List.take_nil, Nat.reduceAdd, Nat.reduceLT, Nat.reduceLeDiff, Nat.zero_add, Nat.add_zero, Nat.lt_add_one, Nat.le_refl, Nat.zero_le, Nat.zero_lt_succ, fillP, fillC, Nat.reduceLeDiff, lgAt, isRd, h, h', endK, rsC, rsV, resV]
  · simp only [x_q, x_o, x_b, x_k, x_x, x_r, x_it, x_if, x_p, p_nil, p_on, p_off, p_mv, p_pk, p_bn, p_un, p_be, p_nl, p_eqa, p_ci, p_cbs, p_csb, p_ex, p_bd, p_fd, p_ix, p_ixa, p_ss, p_sl, p_sla, p_ln, p_lns, p_lnm, p_al, p_bx, p_lal, p_lbx, p_ld, p_st, p_fa, p_ia, p_iaa, p_bs, p_lbs, p_mk, p_ap, p_cp, p_cl, p_cv, p_mf, p_nc, p_mm, p_mkm, p_lk, p_mu, p_dl, p_rs, p_nx, cfC, lgPut, isOk, rv, rh, Bool.false_eq_true, d_nil, d_on, d_off, d_mv, d_pk, d_bn, d_un, d_be, d_nl, d_eqa, d_ci, d_cbs, d_csb, d_ex, d_bd, d_fd, d_ix, d_ixa, d_ss, d_sl, d_sla, d_ln, d_lns, d_lnm, d_al, d_bx, d_lal, d_lbx, d_ld, d_st, d_fa, d_ia, d_iaa, d_bs, d_lbs, d_mk, d_ap, d_cp, d_cl, d_cv, d_mf, d_nc, d_mm, d_mkm, d_lk, d_mu, d_dl, d_rs, d_nx, okO, vlO, mmO, dsO, putE, args, evT, evs, evO, look, kOps, kSeq, kBlk, keepE, reduceIte, Nat.reduceEqDiff, binC, binV, intC, intV, strC, strV, unC, unV, AV.isI, AV.isB, AV.isS, AV.toI, AV.toK, AV.toS, allOut, o_b, o_i, o_s, o_np, o_pv, o_pe, o_ns, o_sl, o_nm, o_mp, o_nf, o_fn, o_ag, q_b, q_i, q_s, q_np, q_pv, q_pe, q_ns, q_sl, q_nm, q_mp, q_nf, q_fn, q_ag, Bool.and_true, Bool.and_self, Bool.true_and, AV.b.injEq, decide_eq_true_eq, decide_eq_false_iff_not, true_and, and_true, and_self, reduceCtorEq, imp_self, implies_true, forall_const, eq_self, ex_tp, ex_ag, List.getD_cons_zero, List.getD_cons_succ, List.length_cons, List.length_nil, Nat.reduceAdd, Nat.reduceLT, Nat.zero_add, bne_self_eq_false, decide_true, decide_false, eq_self, true_implies, false_implies, forall_const, Bool.true_eq_false, Bool.not_true, Bool.not_false, not_true_eq_false, not_false_eq_true, if_true, if_false, pickV, cond_true, cond_false, boolV, fillEC, fillE, List.replicate, List.set, Mem.newL, Mem.keep, Int.reduceToNat, Nat.reduceSub, List.drop_zero, Int.reduceLE, Int.le_refl, Nat.sub_zero, Mem.newL, Mem.newL, Mem.getL, Mem.hasL, lookL, setL, dropL, keepL, memN, la_faC, la_faV, la_ldC, la_ldX, la_stC, la_stM, partOf, partFits, setEl, setPart, Option.isSome_some, Option.getD_some, List.take_succ_cons, List.take_zero, List.drop_succ_cons, List.drop_zero, List.nil_append, List.cons_append, List.getD_cons_zero, List.getD_cons_succ, List.length_cons, List.length_nil, List.set_cons_zero, List.append_nil, List.drop_nil, List.take_nil, Nat.reduceAdd, Nat.reduceLT, Nat.reduceLeDiff, Nat.zero_add, Nat.add_zero, Nat.lt_add_one, Nat.le_refl, Nat.zero_le, Nat.zero_lt_succ, fillP, fillC, Nat.reduceLeDiff, lgAt, isRd, h, endK, rsC, rsV, resV, false_and]
def be16 (n : Nat) : List UInt8 := [UInt8.ofNat (n / 256), UInt8.ofNat n]
theorem r_p16 {n : Nat} {H : AH} (hn : n ≤ 65535) : Runs C c_impl_p16 [.i .i64 n] H fun v H' => Ext H H' ∧ v = .s (be16 n) := by
  unfold Runs c_impl_p16
  have v3 : (2 : Int) ^ (min 8 IntKind.i64.bits) = 256 := by decide
  have v4 : (n : Int).fdiv 256 = ((n / 256 : Nat) : Int) := by
    rw [Int.fdiv_eq_ediv_of_nonneg _ (by omega)]; omega
  have hm : Mb (H.new (.arr true 0 1 (encB (be16 n)))) (.sl H.n 0 2) (be16 n) := Mb.new2 rfl
  obtain ⟨c1, c2⟩ := Byt.cbs hm.sl
  simp only [encB, be16, List.map_cons, List.map_nil] at c1 c2
  simp only [x_q, x_o, x_b, x_k, x_x, x_r, x_it, x_if, x_p, p_nil, p_on, p_off, p_mv, p_pk, p_bn, p_un, p_be, p_nl, p_eqa, p_ci, p_cbs, p_csb, p_ex, p_bd, p_fd, p_ix, p_ixa, p_ss, p_sl, p_sla, p_ln, p_lns, p_lnm, p_al, p_bx, p_lal, p_lbx, p_ld, p_st, p_fa, p_ia, p_iaa, p_bs, p_lbs, p_mk, p_ap, p_cp, p_cl, p_cv, p_mf, p_nc, p_mm, p_mkm, p_lk, p_mu, p_dl, p_rs, p_nx, cfC, lgPut, isOk, rv, rh, Bool.false_eq_true, d_nil, d_on, d_off, d_mv, d_pk, d_bn, d_un, d_be, d_nl, d_eqa, d_ci, d_cbs, d_csb, d_ex, d_bd, d_fd, d_ix, d_ixa, d_ss, d_sl, d_sla, d_ln, d_lns, d_lnm, d_al, d_bx, d_lal, d_lbx, d_ld, d_st, d_fa, d_ia, d_iaa, d_bs, d_lbs, d_mk, d_ap, d_cp, d_cl, d_cv, d_mf, d_nc, d_mm, d_mkm, d_lk, d_mu, d_dl, d_rs, d_nx, okO, vlO, mmO, dsO, putE, args, evT, evs, evO, look, kOps, kSeq, kBlk, keepE, reduceIte, Nat.reduceEqDiff, binC, binV, intC, intV, strC, strV, unC, unV, AV.isI, AV.isB, AV.isS, AV.toI, AV.toK, AV.toS, allOut, o_b, o_i, o_s, o_np, o_pv, o_pe, o_ns, o_sl, o_nm, o_mp, o_nf, o_fn, o_ag, q_b, q_i, q_s, q_np, q_pv, q_pe, q_ns, q_sl, q_nm, q_mp, q_nf, q_fn, q_ag, Bool.and_true, Bool.and_self, Bool.true_and, AV.b.injEq, decide_eq_true_eq, decide_eq_false_iff_not, true_and, and_true, and_self, reduceCtorEq, imp_self, implies_true, forall_const, eq_self, ex_tp, ex_ag, List.getD_cons_zero, List.getD_cons_succ, List.length_cons, List.length_nil, Nat.reduceAdd, Nat.reduceLT, Nat.zero_add, bne_self_eq_false, decide_true, decide_false, eq_self, true_implies, false_implies, forall_const, Bool.true_eq_false, Bool.not_true, Bool.not_false, not_true_eq_false, not_false_eq_true, if_true, if_false, pickV, cond_true, cond_false, boolV, fillEC, fillE, List.replicate, List.set, Mem.newL, Mem.keep, Int.reduceToNat, Nat.reduceSub, List.drop_zero, Int.reduceLE, Int.le_refl, Nat.sub_zero, Mem.newL, Mem.newL, Mem.getL, Mem.hasL, lookL, setL, dropL, keepL, memN, la_faC, la_faV, la_ldC, la_ldX, la_stC, la_stM, partOf, partFits, setEl, setPart, Option.isSome_some, Option.getD_some, List.take_succ_cons, List.take_zero, List.drop_succ_cons, List.drop_zero, List.nil_append, List.cons_append, List.getD_cons_zero, List.getD_cons_succ, List.length_cons, List.length_nil, List.set_cons_zero, List.append_nil, List.drop_nil, List.take_nil, Nat.reduceAdd, Nat.reduceLT, Nat.reduceLeDiff, Nat.zero_add, Nat.add_zero, Nat.lt_add_one, Nat.le_refl, Nat.zero_le, Nat.zero_lt_succ, fillP, fillC, Nat.reduceLeDiff, lgAt, isRd, v3, v4, u8w, fillEC, fillE, List.replicate, List.set_cons_succ, List.set, c1, c2, endK, rsC, rsV, resV]
  exact ⟨Ext.new _ _, rfl⟩
/-- A number's bytes, the high one first. -/
def beK (n : Nat) : Nat → List UInt8
  | 0 => []
  | k + 1 => UInt8.ofNat (n / 256 ^ k) :: beK n k
theorem r_l02Put {n k : Nat} {H : AH} (hn : n ≤ 4611686018427387904) (hk : k ≤ 8) : Runs C c_spec_l02Put [.i .i64 n, .i .i64 k] H fun v H' => Ext H H' ∧ v = .s (beK n k) := by
  unfold Runs c_spec_l02Put
  have hw : IntKind.i64.wrap ((k : Int) - 1) = (k : Int) - 1 := w64 (by omega) (by omega)
  simp only [x_q, x_o, x_b, x_k, x_x, x_r, x_i, x_p, doPs, cfC, lgPut, isOk, rv, rh, Bool.false_eq_true, doOs, okO, vlO, mmO, dsO, putE, args, evT, evs, evO, look, kOps, kSeq, kBlk, keepE, reduceIte, Nat.reduceEqDiff, binC, binV, intC, intV, strC, strV, unC, unV, AV.isI, AV.isB, AV.isS, AV.toI, AV.toK, AV.toS, allOut, o_b, o_i, o_s, o_np, o_pv, o_pe, o_ns, o_sl, o_nm, o_mp, o_nf, o_fn, o_ag, q_b, q_i, q_s, q_np, q_pv, q_pe, q_ns, q_sl, q_nm, q_mp, q_nf, q_fn, q_ag, Bool.and_true, Bool.and_self, Bool.true_and, AV.b.injEq, decide_eq_true_eq, decide_eq_false_iff_not, true_and, and_true, and_self, decide_true, decide_false, eq_self, true_implies, false_implies, forall_const, Bool.true_eq_false, Bool.not_true, Bool.not_false, not_true_eq_false, not_false_eq_true, if_true, if_false, pickV, cond_true, cond_false, boolV, fillEC, fillE, List.replicate, List.set, Mem.newL, Mem.keep, Int.reduceToNat, Nat.reduceSub, List.drop_zero, Int.reduceLE, Int.le_refl, Nat.sub_zero, Mem.newL, hw]
  refine exec_loop (fun m e M => ∃ o done L g H', m ≤ k ∧ look e 0 = .i .i64 n ∧ look e 5 = o ∧ look e 6 = .i .i64 ((m : Int) - 1) ∧ M = ⟨L, g, H'⟩ ∧ Mb H' o done ∧ Ext H H' ∧ (∀ i, i ∈ idA o → H.n ≤ i) ∧ done.length + m = k ∧ beK n k = done ++ beK n m) ?_ (n := k)
    ⟨.sl H.n 0 0, [], _, _, _, Nat.le_refl _, rfl, rfl, rfl, rfl, Mb.new2 (l := []) rfl, Ext.new _ _, by simp [idA], by simp, rfl⟩
  rintro m e M ⟨o, done, L, g, H', hm, q0, q5, q6, rfl, mb, he, hid, hlen, hbe⟩
  cases m with
  | zero =>
    have e1 : ¬ (0 : Int) ≤ ((0 : Nat) : Int) - 1 := by omega
    obtain ⟨c1, c2⟩ := Byt.cbs mb.sl
    simp only [x_q, x_o, x_b, x_k, x_x, x_r, x_it, x_if, x_p, p_nil, p_on, p_off, p_mv, p_pk, p_bn, p_un, p_be, p_nl, p_eqa, p_ci, p_cbs, p_csb, p_ex, p_bd, p_fd, p_ix, p_ixa, p_ss, p_sl, p_sla, p_ln, p_lns, p_lnm, p_al, p_bx, p_lal, p_lbx, p_ld, p_st, p_fa, p_ia, p_iaa, p_bs, p_lbs, p_mk, p_ap, p_cp, p_cl, p_cv, p_mf, p_nc, p_mm, p_mkm, p_lk, p_mu, p_dl, p_rs, p_nx, cfC, lgPut, isOk, rv, rh, Bool.false_eq_true, d_nil, d_on, d_off, d_mv, d_pk, d_bn, d_un, d_be, d_nl, d_eqa, d_ci, d_cbs, d_csb, d_ex, d_bd, d_fd, d_ix, d_ixa, d_ss, d_sl, d_sla, d_ln, d_lns, d_lnm, d_al, d_bx, d_lal, d_lbx, d_ld, d_st, d_fa, d_ia, d_iaa, d_bs, d_lbs, d_mk, d_ap, d_cp, d_cl, d_cv, d_mf, d_nc, d_mm, d_mkm, d_lk, d_mu, d_dl, d_rs, d_nx, okO, vlO, mmO, dsO, putE, args, evT, evs, evO, look, kOps, kSeq, kBlk, keepE, reduceIte, Nat.reduceEqDiff, binC, binV, intC, intV, strC, strV, unC, unV, AV.isI, AV.isB, AV.isS, AV.toI, AV.toK, AV.toS, allOut, o_b, o_i, o_s, o_np, o_pv, o_pe, o_ns, o_sl, o_nm, o_mp, o_nf, o_fn, o_ag, q_b, q_i, q_s, q_np, q_pv, q_pe, q_ns, q_sl, q_nm, q_mp, q_nf, q_fn, q_ag, Bool.and_true, Bool.and_self, Bool.true_and, AV.b.injEq, decide_eq_true_eq, decide_eq_false_iff_not, true_and, and_true, and_self, reduceCtorEq, imp_self, implies_true, forall_const, eq_self, ex_tp, ex_ag, List.getD_cons_zero, List.getD_cons_succ, List.length_cons, List.length_nil, Nat.reduceAdd, Nat.reduceLT, Nat.zero_add, bne_self_eq_false, decide_true, decide_false, eq_self, true_implies, false_implies, forall_const, Bool.true_eq_false, Bool.not_true, Bool.not_false, not_true_eq_false, not_false_eq_true, if_true, if_false, pickV, cond_true, cond_false, boolV, fillEC, fillE, List.replicate, List.set, Mem.newL, Mem.keep, Int.reduceToNat, Nat.reduceSub, List.drop_zero, Int.reduceLE, Int.le_refl, Nat.sub_zero, Mem.newL, q0, q5, q6, e1, c1, c2, endK, rsC, rsV, resV]
    exact ⟨he, by rw [hbe]; simp [beK]⟩
  | succ m =>
    have e1 : (0 : Int) ≤ ((m + 1 : Nat) : Int) - 1 := by omega
    have e2 : ((m + 1 : Nat) : Int) - 1 = (m : Int) := by omega
    have w1 : IntKind.i64.wrap (8 * (m : Int)) = 8 * (m : Int) := w64 (by omega) (by omega)
    have w2 : IntKind.u64.wrap (8 * (m : Int)) = 8 * (m : Int) := by rw [IntKind.wrap_u64]; omega
    have w3 : min ((8 * (m : Int)).toNat) IntKind.i64.bits = 8 * m := by
      have : IntKind.i64.bits = 64 := rfl
      omega
    have w4 : (n : Int).fdiv (2 ^ (8 * m)) = ((n / 256 ^ m : Nat) : Int) := by
      have h2 : (256 : Nat) ^ m = 2 ^ (8 * m) := by rw [Nat.pow_mul]
      rw [Int.fdiv_eq_ediv_of_nonneg _ (Int.le_of_lt (Int.pow_pos (by decide))), h2, Int.natCast_ediv, Int.natCast_pow]
      rfl
    have w5 : IntKind.i64.wrap ((m : Int) - 1) = (m : Int) - 1 := w64 (by omega) (by omega)
    have w6 : (0 : Int) ≤ 8 * (m : Int) := by omega
    have hsrc := lit_src (t := 21) (g := g) (x := .i .u8 (UInt8.ofNat (n / 256 ^ m)).toNat) (L := dropL (keepL [0, 5, 6] L) 21) (H := H')
    obtain ⟨p1, o', H2, p2, p3, p4, p5, p6, p7, -⟩ := Mn.ap (by' := 1) mb hsrc (by simp; omega)
    have e3 : (0 : Int) ≤ (m : Int) := by omega
    simp only [x_q, x_o, x_b, x_k, x_x, x_r, x_it, x_if, x_p, p_nil, p_on, p_off, p_mv, p_pk, p_bn, p_un, p_be, p_nl, p_eqa, p_ci, p_cbs, p_csb, p_ex, p_bd, p_fd, p_ix, p_ixa, p_ss, p_sl, p_sla, p_ln, p_lns, p_lnm, p_al, p_bx, p_lal, p_lbx, p_ld, p_st, p_fa, p_ia, p_iaa, p_bs, p_lbs, p_mk, p_ap, p_cp, p_cl, p_cv, p_mf, p_nc, p_mm, p_mkm, p_lk, p_mu, p_dl, p_rs, p_nx, cfC, lgPut, isOk, rv, rh, Bool.false_eq_true, d_nil, d_on, d_off, d_mv, d_pk, d_bn, d_un, d_be, d_nl, d_eqa, d_ci, d_cbs, d_csb, d_ex, d_bd, d_fd, d_ix, d_ixa, d_ss, d_sl, d_sla, d_ln, d_lns, d_lnm, d_al, d_bx, d_lal, d_lbx, d_ld, d_st, d_fa, d_ia, d_iaa, d_bs, d_lbs, d_mk, d_ap, d_cp, d_cl, d_cv, d_mf, d_nc, d_mm, d_mkm, d_lk, d_mu, d_dl, d_rs, d_nx, okO, vlO, mmO, dsO, putE, args, evT, evs, evO, look, kOps, kSeq, kBlk, keepE, reduceIte, Nat.reduceEqDiff, binC, binV, intC, intV, strC, strV, unC, unV, AV.isI, AV.isB, AV.isS, AV.toI, AV.toK, AV.toS, allOut, o_b, o_i, o_s, o_np, o_pv, o_pe, o_ns, o_sl, o_nm, o_mp, o_nf, o_fn, o_ag, q_b, q_i, q_s, q_np, q_pv, q_pe, q_ns, q_sl, q_nm, q_mp, q_nf, q_fn, q_ag, Bool.and_true, Bool.and_self, Bool.true_and, AV.b.injEq, decide_eq_true_eq, decide_eq_false_iff_not, true_and, and_true, and_self, reduceCtorEq, imp_self, implies_true, forall_const, eq_self, ex_tp, ex_ag, List.getD_cons_zero, List.getD_cons_succ, List.length_cons, List.length_nil, Nat.reduceAdd, Nat.reduceLT, Nat.zero_add, bne_self_eq_false, decide_true, decide_false, eq_self, true_implies, false_implies, forall_const, Bool.true_eq_false, Bool.not_true, Bool.not_false, not_true_eq_false, not_false_eq_true, if_true, if_false, pickV, cond_true, cond_false, boolV, fillEC, fillE, List.replicate, List.set, Mem.newL, Mem.keep, Int.reduceToNat, Nat.reduceSub, List.drop_zero, Int.reduceLE, Int.le_refl, Nat.sub_zero, Mem.newL, q0, q5, q6, e1, e2, e3, w1, w2, w3, w4, w5, w6, u8w, p1, p2, p3]
    refine ⟨m, by omega, o', done ++ [UInt8.ofNat (n / 256 ^ m)], _, _, H2, by omega, rfl, rfl, rfl, ?_, he.put hid p5 p6, ?_, by simp; omega, by rw [hbe]; simp [beK]⟩
    · unfold Mb; rw [enc_app]; exact p4
    · intro i hi
      rcases p7 i hi with h | h
      · exact hid i h
      · have := he.n; omega
end
end Go.Vm
