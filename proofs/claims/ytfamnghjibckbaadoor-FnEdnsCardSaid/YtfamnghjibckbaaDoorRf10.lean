import Derived.Test.YtfamnghjibckbaaDoorRf4
import Derived.Test.YtfamnghjibckbaaDoorRf8
import Derived.Test.YtfamnghjibckbaaDoorRf9
/- The reader of messages: numbers, the head, the reader's steps. -/
namespace Go.Vm
set_option linter.unusedVariables false
set_option linter.unusedSimpArgs false
theorem or_u32 {x y k : Nat} (hy : y < 2 ^ k) (h : x * 2 ^ k + y < 4294967296) : bitw .or .u32 (y : Int) ((x * 2 ^ k : Nat) : Int) = ((x * 2 ^ k + y : Nat) : Int) := by
  have e2 : y ||| x * 2 ^ k = x * 2 ^ k + y := by
    have := Nat.two_pow_add_eq_or_of_lt (i := k) (b := y) hy x
    rw [Nat.mul_comm, Nat.or_comm]; exact this.symm
  unfold bitw
  simp only
  rw [show IntKind.u32.bits = 32 from rfl, BitVec.ofInt_natCast, BitVec.ofInt_natCast, BitVec.toNat_or, BitVec.toNat_ofNat, BitVec.toNat_ofNat, Nat.mod_eq_of_lt (by omega), Nat.mod_eq_of_lt (by omega), e2, IntKind.wrap_u32]
  omega
theorem and_low {n k : Nat} (hn : n < 9223372036854775808) (hk : k ≤ 32) : bitw .and .i64 (n : Int) ((2 ^ k - 1 : Nat) : Int) = ((n % 2 ^ k : Nat) : Int) := by
  have hp : 2 ^ k ≤ 2 ^ 32 := Nat.pow_le_pow_right (by decide) hk
  have h0 : 0 < 2 ^ k := Nat.pow_pos (by decide)
  have hm : n % 2 ^ k < 2 ^ k := Nat.mod_lt _ h0
  generalize hP : 2 ^ k = p at *
  unfold bitw
  simp only
  rw [show IntKind.i64.bits = 64 from rfl, BitVec.ofInt_natCast, BitVec.ofInt_natCast, BitVec.toNat_and, BitVec.toNat_ofNat, BitVec.toNat_ofNat, Nat.mod_eq_of_lt (by omega), Nat.mod_eq_of_lt (by omega), ← hP, Nat.and_two_pow_sub_one_eq_mod, hP, w64 (by omega) (by omega)]
theorem num4 {a b c d : UInt8} : num [a, b, c, d] 0 = ((a.toNat * 256 + b.toNat) * 256 + c.toNat) * 256 + d.toNat := by simp [num]
theorem be4 (a b c d : Nat) : a * 2 ^ 24 + (b * 2 ^ 16 + (c * 2 ^ 8 + d)) = ((a * 256 + b) * 256 + c) * 256 + d := by omega
def T_Uint32 (C : Tab) (f : Nat) : Prop := ∀ (x a : AV) (l : List UInt8) (H : AH), x.outs = true → Byt H a l → l.length = 4 → C f [x, a] H = some (.i .u32 (num l 0 : Nat), H)
def T_u32 (C : Tab) (f : Nat) : Prop := ∀ (d : List UInt8) (H : AH), 4 ≤ d.length → ∃ v H', C f [.s d] H = some (v, H') ∧ v = .i .i64 (num (d.take 4) 0 : Nat) ∧ Ext H H'
def bitN (n k : Nat) : Bool := decide (n / 2 ^ k % 2 = 1)
def T_bit (C : Tab) (f : Nat) : Prop := ∀ (n k : Nat) (H : AH), n < 9223372036854775808 → k ≤ 62 → C f [.i .i64 n, .i .u64 k] H = some (.b (bitN n k), H)
section
variable {C : Tab}
theorem r_bit {n k : Nat} {H : AH} (hn : n < 9223372036854775808) (hk : k ≤ 62) : Runs C c_impl_bit [.i .i64 n, .i .u64 k] H fun v H' => H' = H ∧ v = .b (bitN n k) := by
  unfold Runs c_impl_bit
  have k0 : (0 : Int) ≤ k := by omega
  have hm : min (k : Int).toNat IntKind.i64.bits = k := by
    rw [show IntKind.i64.bits = 64 from rfl]; omega
  have v : (n : Int).fdiv (2 ^ (min (k : Int).toNat IntKind.i64.bits)) = ((n / 2 ^ k : Nat) : Int) := by rw [hm]; exact fdiv_nat n k
  have hd : n / 2 ^ k ≤ n := Nat.div_le_self _ _
  have a : bitw .and .i64 ((n / 2 ^ k : Nat) : Int) 1 = ((n / 2 ^ k % 2 : Nat) : Int) := and_low (k := 1) (by omega) (by decide)
  simp -implicitDefEqProofs only [x_q, x_o, x_b, x_k, x_x, x_r, x_it, x_if, x_p, p_nil, p_on, p_off, p_mv, p_pk, p_bn, p_un, p_be, p_nl, p_eqa, p_ci, p_cbs, p_csb, p_ex, p_bd, p_fd, p_ix, p_ixa, p_ss, p_sl, p_sla, p_ln, p_lns, p_lnm, p_al, p_bx, p_lal, p_lbx, p_ld, p_st, p_fa, p_ia, p_iaa, p_bs, p_lbs, p_mk, p_ap, p_cp, p_cl, p_cv, p_mf, p_nc, p_mm, p_mkm, p_lk, p_mu, p_dl, p_rs, p_nx, cfC, lgPut, isOk, rv, rh, Bool.false_eq_true, d_nil, d_on, d_off, d_mv, d_pk, d_bn, d_un, d_be, d_nl, d_eqa, d_ci, d_cbs, d_csb, d_ex, d_bd, d_fd, d_ix, d_ixa, d_ss, d_sl, d_sla, d_ln, d_lns, d_lnm, d_al, d_bx, d_lal, d_lbx, d_ld, d_st, d_fa, d_ia, d_iaa, d_bs, d_lbs, d_mk, d_ap, d_cp, d_cl, d_cv, d_mf, d_nc, d_mm, d_mkm, d_lk, d_mu, d_dl, d_rs, d_nx, okO, vlO, mmO, dsO, putE, args, evT, evs, evO, look, kOps, kSeq, kBlk, keepE, reduceIte, Nat.reduceEqDiff, binC, binV, intC, intV, strC, strV, unC, unV, AV.isI, AV.isB, AV.isS, AV.toI, AV.toK, AV.toS, allOut, o_b, o_i, o_s, o_np, o_pv, o_pe, o_ns, o_sl, o_nm, o_mp, o_nf, o_fn, o_ag, q_b, q_i, q_s, q_np, q_pv, q_pe, q_ns, q_sl, q_nm, q_mp, q_nf, q_fn, q_ag, Bool.and_true, Bool.and_self, Bool.true_and, AV.b.injEq, decide_eq_true_eq, decide_eq_false_iff_not, true_and, and_true, and_self, reduceCtorEq, imp_self, implies_true, forall_const, eq_self, ex_tp, ex_ag, List.getD_cons_zero, List.getD_cons_succ, List.length_cons, List.length_nil, Nat.reduceAdd, Nat.reduceLT, Nat.zero_add, bne_self_eq_false, decide_true, decide_false, eq_self, true_implies, false_implies, forall_const, Bool.true_eq_false, Bool.not_true, Bool.not_false, not_true_eq_false, not_false_eq_true, if_true, if_false, pickV, cond_true, cond_false, boolV, fillEC, fillE, List.replicate, List.set, Mem.newL, Mem.keep, Int.reduceToNat, Nat.reduceSub, List.drop_zero, Int.reduceLE, Int.le_refl, Nat.sub_zero, Mem.newL, k0, v, a, endK, rsC, rsV, resV]
  unfold bitN
  congr 1
  exact propext (by omega)
theorem r_Uint32 {x a : AV} {l : List UInt8} {H : AH} (hx : x.outs = true) (h : Byt H a l) (hl : l.length = 4) : Runs C c_binary_bigEndian_Uint32 [x, a] H fun v H' => H' = H ∧ v = .i .u32 (num l 0 : Nat) := by
  unfold Runs c_binary_bigEndian_Uint32
  obtain ⟨b0, b1, b2, b3, rfl⟩ : ∃ b0 b1 b2 b3, l = [b0, b1, b2, b3] := by
    match l, hl with
    | [b0, b1, b2, b3], _ => exact ⟨b0, b1, b2, b3, rfl⟩
  have oo := h.out
  have i3 := fun (L : List Lv) (g : Nat) => h.ia (j := 3) (by omega) (by simp) L g
  have i2 := fun (L : List Lv) (g : Nat) => h.ia (j := 2) (by omega) (by simp) L g
  have i1 := fun (L : List Lv) (g : Nat) => h.ia (j := 1) (by omega) (by simp) L g
  have i0 := fun (L : List Lv) (g : Nat) => h.ia (j := 0) (by omega) (by simp) L g
  simp only [List.getD_cons_succ, List.getD_cons_zero, Int.reduceToNat] at i3 i2 i1 i0
  obtain ⟨z1, z3, -⟩ := i3 [] 0
  obtain ⟨-, z2, -⟩ := i2 [] 0
  obtain ⟨-, zb, -⟩ := i1 [] 0
  obtain ⟨-, za, -⟩ := i0 [] 0
  have l0 := b0.toNat_lt; have l1 := b1.toNat_lt; have l2 := b2.toNat_lt; have l3 := b3.toNat_lt
  have w0 : IntKind.u32.wrap (b0.toNat : Int) = b0.toNat := by rw [IntKind.wrap_u32]; omega
  have w1 : IntKind.u32.wrap (b1.toNat : Int) = b1.toNat := by rw [IntKind.wrap_u32]; omega
  have w2 : IntKind.u32.wrap (b2.toNat : Int) = b2.toNat := by rw [IntKind.wrap_u32]; omega
  have w3 : IntKind.u32.wrap (b3.toNat : Int) = b3.toNat := by rw [IntKind.wrap_u32]; omega
  have v2 : IntKind.u32.wrap ((b2.toNat : Int) * 2 ^ (min 8 IntKind.u32.bits)) = ((b2.toNat * 2 ^ 8 : Nat) : Int) := by rw [IntKind.wrap_u32, show (2 : Int) ^ (min 8 IntKind.u32.bits) = 256 from by decide]; omega
  have v1 : IntKind.u32.wrap ((b1.toNat : Int) * 2 ^ (min 16 IntKind.u32.bits)) = ((b1.toNat * 2 ^ 16 : Nat) : Int) := by rw [IntKind.wrap_u32, show (2 : Int) ^ (min 16 IntKind.u32.bits) = 65536 from by decide]; omega
  have v0 : IntKind.u32.wrap ((b0.toNat : Int) * 2 ^ (min 24 IntKind.u32.bits)) = ((b0.toNat * 2 ^ 24 : Nat) : Int) := by rw [IntKind.wrap_u32, show (2 : Int) ^ (min 24 IntKind.u32.bits) = 16777216 from by decide]; omega
  have o2 := or_u32 (x := b2.toNat) (y := b3.toNat) (k := 8) (by omega) (by omega)
  have o1 := or_u32 (x := b1.toNat) (y := b2.toNat * 2 ^ 8 + b3.toNat) (k := 16) (by omega) (by omega)
  have o0 := or_u32 (x := b0.toNat) (y := b1.toNat * 2 ^ 16 + (b2.toNat * 2 ^ 8 + b3.toNat)) (k := 24) (by omega) (by omega)
  simp -implicitDefEqProofs only [x_q, x_o, x_b, x_k, x_x, x_r, x_it, x_if, x_p, p_nil, p_on, p_off, p_mv, p_pk, p_bn, p_un, p_be, p_nl, p_eqa, p_ci, p_cbs, p_csb, p_ex, p_bd, p_fd, p_ix, p_ixa, p_ss, p_sl, p_sla, p_ln, p_lns, p_lnm, p_al, p_bx, p_lal, p_lbx, p_ld, p_st, p_fa, p_ia, p_iaa, p_bs, p_lbs, p_mk, p_ap, p_cp, p_cl, p_cv, p_mf, p_nc, p_mm, p_mkm, p_lk, p_mu, p_dl, p_rs, p_nx, cfC, lgPut, isOk, rv, rh, Bool.false_eq_true, d_nil, d_on, d_off, d_mv, d_pk, d_bn, d_un, d_be, d_nl, d_eqa, d_ci, d_cbs, d_csb, d_ex, d_bd, d_fd, d_ix, d_ixa, d_ss, d_sl, d_sla, d_ln, d_lns, d_lnm, d_al, d_bx, d_lal, d_lbx, d_ld, d_st, d_fa, d_ia, d_iaa, d_bs, d_lbs, d_mk, d_ap, d_cp, d_cl, d_cv, d_mf, d_nc, d_mm, d_mkm, d_lk, d_mu, d_dl, d_rs, d_nx, okO, vlO, mmO, dsO, putE, args, evT, evs, evO, look, kOps, kSeq, kBlk, keepE, reduceIte, Nat.reduceEqDiff, binC, binV, intC, intV, strC, strV, unC, unV, AV.isI, AV.isB, AV.isS, AV.toI, AV.toK, AV.toS, allOut, o_b, o_i, o_s, o_np, o_pv, o_pe, o_ns, o_sl, o_nm, o_mp, o_nf, o_fn, o_ag, q_b, q_i, q_s, q_np, q_pv, q_pe, q_ns, q_sl, q_nm, q_mp, q_nf, q_fn, q_ag, Bool.and_true, Bool.and_self, Bool.true_and, AV.b.injEq, decide_eq_true_eq, decide_eq_false_iff_not, true_and, and_true, and_self, reduceCtorEq, imp_self, implies_true, forall_const, eq_self, ex_tp, ex_ag, List.getD_cons_zero, List.getD_cons_succ, List.length_cons, List.length_nil, Nat.reduceAdd, Nat.reduceLT, Nat.zero_add, bne_self_eq_false, decide_true, decide_false, eq_self, true_implies, false_implies, forall_const, Bool.true_eq_false, Bool.not_true, Bool.not_false, not_true_eq_false, not_false_eq_true, if_true, if_false, pickV, cond_true, cond_false, boolV, fillEC, fillE, List.replicate, List.set, Mem.newL, Mem.keep, Int.reduceToNat, Nat.reduceSub, List.drop_zero, Int.reduceLE, Int.le_refl, Nat.sub_zero, Mem.newL, Mem.newL, Mem.getL, Mem.hasL, lookL, setL, dropL, keepL, memN, la_faC, la_faV, la_ldC, la_ldX, la_stC, la_stM, partOf, partFits, setEl, setPart, Option.isSome_some, Option.getD_some, List.take_succ_cons, List.take_zero, List.drop_succ_cons, List.drop_zero, List.nil_append, List.cons_append, List.getD_cons_zero, List.getD_cons_succ, List.length_cons, List.length_nil, List.set_cons_zero, List.append_nil, List.drop_nil, List.take_nil, Nat.reduceAdd, Nat.reduceLT, Nat.reduceLeDiff, Nat.zero_add, Nat.add_zero, Nat.lt_add_one, Nat.le_refl, Nat.zero_le, Nat.zero_lt_succ, fillP, fillC, Nat.reduceLeDiff, lgAt, isRd, hx, oo, z1, z2, z3, za, zb, i3, i2, i1, i0, w0, w1, w2, w3, v0, v1, v2, o2, o1, o0, endK, rsC, rsV, resV]
  rw [num4]
  rw [be4]
theorem r_u32 {d : List UInt8} {H : AH} (hU : T_Uint32 C n_binary_bigEndian_Uint32) (hd : 4 ≤ d.length) : Runs C c_impl_u32 [.s d] H fun v H' => v = .i .i64 (num (d.take 4) 0 : Nat) ∧ Ext H H' := by
  unfold Runs c_impl_u32
  have h4 : (4 : Int) ≤ d.length := by omega
  have hb : Byt (H.new (.arr true 0 1 (encB (d.take 4)))) (.sl H.n 0 (d.take 4).length) (d.take 4) := by have := Mb.new2 (H := H) (l := d.take 4) rfl; exact this.sl
  have hk := hU (.ag []) (.sl H.n 0 (d.take 4).length) (d.take 4) _ rfl hb (by simp; omega)
  obtain ⟨a, b, c, e, hl⟩ : ∃ a b c e, d.take 4 = [a, b, c, e] := by
    match d, hd with
    | a :: b :: c :: e :: r, _ => exact ⟨a, b, c, e, rfl⟩
  have hn : num (d.take 4) 0 < 4294967296 := by
    rw [hl, num4]
    have l0 := a.toNat_lt; have l1 := b.toNat_lt; have l2 := c.toNat_lt; have l3 := e.toNat_lt
    omega
  have w : IntKind.i64.wrap ((num (d.take 4) 0 : Nat) : Int) = (num (d.take 4) 0 : Nat) := w64 (by omega) (by omega)
  simp -implicitDefEqProofs only [x_q, x_o, x_b, x_k, x_x, x_r, x_it, x_if, x_p, p_nil, p_on, p_off, p_mv, p_pk, p_bn, p_un, p_be, p_nl, p_eqa, p_ci, p_cbs, p_csb, p_ex, p_bd, p_fd, p_ix, p_ixa, p_ss, p_sl, p_sla, p_ln, p_lns, p_lnm, p_al, p_bx, p_lal, p_lbx, p_ld, p_st, p_fa, p_ia, p_iaa, p_bs, p_lbs, p_mk, p_ap, p_cp, p_cl, p_cv, p_mf, p_nc, p_mm, p_mkm, p_lk, p_mu, p_dl, p_rs, p_nx, cfC, lgPut, isOk, rv, rh, Bool.false_eq_true, d_nil, d_on, d_off, d_mv, d_pk, d_bn, d_un, d_be, d_nl, d_eqa, d_ci, d_cbs, d_csb, d_ex, d_bd, d_fd, d_ix, d_ixa, d_ss, d_sl, d_sla, d_ln, d_lns, d_lnm, d_al, d_bx, d_lal, d_lbx, d_ld, d_st, d_fa, d_ia, d_iaa, d_bs, d_lbs, d_mk, d_ap, d_cp, d_cl, d_cv, d_mf, d_nc, d_mm, d_mkm, d_lk, d_mu, d_dl, d_rs, d_nx, okO, vlO, mmO, dsO, putE, args, evT, evs, evO, look, kOps, kSeq, kBlk, keepE, reduceIte, Nat.reduceEqDiff, binC, binV, intC, intV, strC, strV, unC, unV, AV.isI, AV.isB, AV.isS, AV.toI, AV.toK, AV.toS, allOut, o_b, o_i, o_s, o_np, o_pv, o_pe, o_ns, o_sl, o_nm, o_mp, o_nf, o_fn, o_ag, q_b, q_i, q_s, q_np, q_pv, q_pe, q_ns, q_sl, q_nm, q_mp, q_nf, q_fn, q_ag, Bool.and_true, Bool.and_self, Bool.true_and, AV.b.injEq, decide_eq_true_eq, decide_eq_false_iff_not, true_and, and_true, and_self, reduceCtorEq, imp_self, implies_true, forall_const, eq_self, ex_tp, ex_ag, List.getD_cons_zero, List.getD_cons_succ, List.length_cons, List.length_nil, Nat.reduceAdd, Nat.reduceLT, Nat.zero_add, bne_self_eq_false, decide_true, decide_false, eq_self, true_implies, false_implies, forall_const, Bool.true_eq_false, Bool.not_true, Bool.not_false, not_true_eq_false, not_false_eq_true, if_true, if_false, pickV, cond_true, cond_false, boolV, fillEC, fillE, List.replicate, List.set, Mem.newL, Mem.keep, Int.reduceToNat, Nat.reduceSub, List.drop_zero, Int.reduceLE, Int.le_refl, Nat.sub_zero, Mem.newL, lgAt, isRd, pv_ldC0, pv_ldX0, h4, Int.reduceToNat, Nat.sub_zero, hk, w, endK, rsC, rsV, resV]
  exact .new _ _
end
end Go.Vm

/- The reader of messages: the head, the reader's object, bytes taken, the root's name. -/
namespace Go.Vm
set_option linter.unusedVariables false
set_option linter.unusedSimpArgs false
def b2 (l : List UInt8) (k : Nat) : Nat := num ((l.drop k).take 2) 0
def hdOf (l : List UInt8) : Hd := ⟨b2 l 0, bitN (b2 l 2) 15, (b2 l 2 / 2048 % 16 : Nat), bitN (b2 l 2) 10, bitN (b2 l 2) 9, bitN (b2 l 2) 8, bitN (b2 l 2) 7, bitN (b2 l 2) 6, bitN (b2 l 2) 5, bitN (b2 l 2) 4, (b2 l 2 % 16 : Nat)⟩
def cntV (l : List UInt8) : AV := .ag [.i .i64 (b2 l 4), .i .i64 (b2 l 6), .i .i64 (b2 l 8), .i .i64 (b2 l 10)]
def T_DecodeHead (C : Tab) (f : Nat) : Prop := ∀ (a : AV) (l : List UInt8) (H : AH), Byt H a l → Cl H a → 12 ≤ l.length → ∃ v H', C f [a] H = some (v, H') ∧ v = .tp [eH.v (hdOf (l.take 12)), cntV (l.take 12), .i .i64 0] ∧ H' = H
theorem b2_lt {l : List UInt8} {k : Nat} (h : k + 2 ≤ l.length) : b2 l k < 65536 := by
  unfold b2
  obtain ⟨x, y, hxy⟩ : ∃ x y, (l.drop k).take 2 = [x, y] := by
    have hl : ((l.drop k).take 2).length = 2 := by simp; omega
    match h : (l.drop k).take 2, hl with
    | [x, y], _ => exact ⟨x, y, rfl⟩
  rw [hxy, num2]
  have := x.toNat_lt; have := y.toNat_lt
  omega
structure Dec (H : AH) (id : Nat) (a : AV) (l : List UInt8) (p : Nat) (code : Int) : Prop where
  ob : Obj1 H id [a, .i .i64 p, .i .i64 code]
  b : Byt H a l
  cl : Cl H a
  ni : ¬ id ∈ idA a
  hl : l.length ≤ 65535
  hp : p ≤ l.length
def takeR (l : List UInt8) (p n : Nat) (code : Int) : List UInt8 × Nat × Int :=
  if code = 0 then (if p + n ≤ l.length then ((l.drop p).take n, p + n, 0) else (List.replicate n 0, p, 8)) else (List.replicate n 0, p, code)
def T_take (C : Tab) (f : Nat) : Prop := ∀ (id : Nat) (a : AV) (l : List UInt8) (p n : Nat) (code : Int) (H : AH), Dec H id a l p code → n ≤ 1099511627776 →
  ∃ v H', C f [.pv id 0, .i .i64 n] H = some (v, H') ∧ v = .s (takeR l p n code).1 ∧ Dec H' id a l (takeR l p n code).2.1 (takeR l p n code).2.2 ∧ Kp [id] H H'
def T_DecodeName0 (C : Tab) (f : Nat) : Prop := ∀ (a : AV) (l : List UInt8) (p : Nat) (H : AH), Byt H a l → l.length ≤ 65535 → p < l.length → l.getD p 0 = 0 →
  ∃ v H', C f [a, .i .i64 p] H = some (v, H') ∧ v = .tp [.s [0], .i .i64 (p + 1 : Nat), .i .i64 0] ∧ Ext H H'
def T_decName0 (C : Tab) (f : Nat) : Prop := ∀ (id : Nat) (a : AV) (l : List UInt8) (p : Nat) (H : AH), Dec H id a l p 0 → p < l.length → l.getD p 0 = 0 →
  ∃ v H', C f [.pv id 0] H = some (v, H') ∧ v = .s [0] ∧ Dec H' id a l (p + 1) 0 ∧ Kp [id] H H'
theorem Dec.ext {H H' : AH} {id : Nat} {a : AV} {l : List UInt8} {p : Nat} {code : Int} (h : Dec H id a l p code) (he : Ext H H') : Dec H' id a l p code :=
  ⟨h.ob.ext he, Sl.ext h.b he, h.cl.fr fun i hi => he.at' i (Sl.lt h.b i hi), h.ni, h.hl, h.hp⟩
/-- Its two numbers set. -/
theorem Dec.st {H : AH} {id : Nat} {a : AV} {l : List UInt8} {p : Nat} {code : Int} (h : Dec H id a l p code) :
    (∀ (q : Nat), q ≤ l.length → (∀ (L : List Lv) (g : Nat), stC ⟨L, g, H⟩ (.i .i64 q) (.pv id 1)) ∧ ∃ H', (∀ (L : List Lv) (g : Nat), stM ⟨L, g, H⟩ (.i .i64 q) (.pv id 1) = ⟨L, g, H'⟩) ∧ Dec H' id a l q code ∧ Kp [id] H H') ∧
    ∀ (c : Int), (∀ (L : List Lv) (g : Nat), stC ⟨L, g, H⟩ (.i .i64 c) (.pv id 2)) ∧ ∃ H', (∀ (L : List Lv) (g : Nat), stM ⟨L, g, H⟩ (.i .i64 c) (.pv id 2) = ⟨L, g, H'⟩) ∧ Dec H' id a l p c ∧ Kp [id] H H' := by
  have hni := h.ni
  refine ⟨fun q hq => ?_, fun c => ?_⟩
  · obtain ⟨s1, H', s2, s3, s4, s5⟩ := h.ob.st (off := 1) (v := .i .i64 q) (by simp) rfl
    have ha : ∀ i, i ∈ idA a → H'.at' i = H.at' i := fun i hi => s5 i (by simp only [List.mem_singleton]; intro e; exact hni (e ▸ hi))
    exact ⟨s1, H', s2, ⟨s3, Sl.fr h.b (Nat.le_of_eq s4.symm) ha, h.cl.fr ha, hni, h.hl, hq⟩, .st s4 s5⟩
  · obtain ⟨s1, H', s2, s3, s4, s5⟩ := h.ob.st (off := 2) (v := .i .i64 c) (by simp) rfl
    have ha : ∀ i, i ∈ idA a → H'.at' i = H.at' i := fun i hi => s5 i (by simp only [List.mem_singleton]; intro e; exact hni (e ▸ hi))
    exact ⟨s1, H', s2, ⟨s3, Sl.fr h.b (Nat.le_of_eq s4.symm) ha, h.cl.fr ha, hni, h.hl, h.hp⟩, .st s4 s5⟩
theorem Dec.lds {H : AH} {id : Nat} {a : AV} {l : List UInt8} {p : Nat} {code : Int} (h : Dec H id a l p code) :
    ((∀ (L : List Lv) (g : Nat), ldC ⟨L, g, H⟩ none (.pv id 0)) ∧ (∀ (L : List Lv) (g : Nat), ldC ⟨L, g, H⟩ none (.pv id 1)) ∧ (∀ (L : List Lv) (g : Nat), ldC ⟨L, g, H⟩ none (.pv id 2))) ∧
    (∀ (L : List Lv) (g : Nat), ldX ⟨L, g, H⟩ none (.pv id 0) = a) ∧ (∀ (L : List Lv) (g : Nat), ldX ⟨L, g, H⟩ none (.pv id 1) = .i .i64 p) ∧ ∀ (L : List Lv) (g : Nat), ldX ⟨L, g, H⟩ none (.pv id 2) = .i .i64 code := by
  obtain ⟨a1, a2⟩ := h.ob.ld (off := 0) (by simp)
  obtain ⟨b1, b2⟩ := h.ob.ld (off := 1) (by simp)
  obtain ⟨c1, c2⟩ := h.ob.ld (off := 2) (by simp)
  exact ⟨⟨a1, b1, c1⟩, a2, b2, c2⟩
section
variable {C : Tab}
theorem r_DecodeHead {a : AV} {l : List UInt8} {H : AH} (hU : T_u16 C n_impl_u16) (hB : T_bit C n_impl_bit) (h : Byt H a l) (hc : Cl H a) (hl : 12 ≤ l.length) :
    Runs C c_impl_DecodeHead [a] H fun v H' => v = .tp [eH.v (hdOf (l.take 12)), cntV (l.take 12), .i .i64 0] ∧ H' = H := by
  unfold Runs c_impl_DecodeHead
  obtain ⟨l1, l2⟩ := h.len
  have hlt : ¬ (l.length : Int) < 12 := by omega
  obtain ⟨s1, s2, s3⟩ := h.sub hc (lo := 0) (hi := 12) (by omega) (by omega) (by simp; omega)
  have s3' : Byt H (slV 0 12 a) (l.take 12) := by
    have e : ((encB l).drop (0 : Int).toNat).take ((12 : Int).toNat - (0 : Int).toNat) = encB (l.take 12) := by rw [← enc_take]; rfl
    rw [e] at s3; exact s3
  obtain ⟨c1, c2⟩ := s3'.cbs
  have hs : (l.take 12).length = 12 := by simp; omega
  generalize l.take 12 = s at *
  have u : ∀ k, k + 2 ≤ 12 → ∀ H, C n_impl_u16 [.s ((s.drop k).take (12 - k))] H = some (.i .i64 (b2 s k), H) := fun k hk H => by
    rw [hU _ H (by simp; omega)]
    unfold b2
    rw [List.take_take, Nat.min_eq_left (by omega)]
  have u2 := fun H => u 2 (by omega) H
  have u4 := fun H => u 4 (by omega) H
  have u6 := fun H => u 6 (by omega) H
  have u8 := fun H => u 8 (by omega) H
  have u10 := fun H => u 10 (by omega) H
  have u0 := fun H => hU s H (by omega)
  have e0 : num (s.take 2) 0 = b2 s 0 := rfl
  simp only [e0] at u0
  simp only [Nat.reduceSub] at u2 u4 u6 u8 u10
  have hv := b2_lt (l := s) (k := 2) (by omega)
  have bb : ∀ (k : Nat), k ≤ 62 → ∀ H, C n_impl_bit [.i .i64 (b2 s 2 : Nat), .i .u64 k] H = some (.b (bitN (b2 s 2) k), H) := fun k hk H => hB _ k H (by omega) hk
  have b15 := fun H => bb 15 (by omega) H
  have b10 := fun H => bb 10 (by omega) H
  have b9 := fun H => bb 9 (by omega) H
  have b8 := fun H => bb 8 (by omega) H
  have b7 := fun H => bb 7 (by omega) H
  have b6 := fun H => bb 6 (by omega) H
  have b5 := fun H => bb 5 (by omega) H
  have b4 := fun H => bb 4 (by omega) H
  simp only [show ((15 : Nat) : Int) = 15 from rfl, show ((10 : Nat) : Int) = 10 from rfl, show ((9 : Nat) : Int) = 9 from rfl, show ((8 : Nat) : Int) = 8 from rfl, show ((7 : Nat) : Int) = 7 from rfl, show ((6 : Nat) : Int) = 6 from rfl, show ((5 : Nat) : Int) = 5 from rfl, show ((4 : Nat) : Int) = 4 from rfl] at b15 b10 b9 b8 b7 b6 b5 b4
  have f1 : ((b2 s 2 : Nat) : Int).fdiv (2 ^ (min 11 IntKind.i64.bits)) = ((b2 s 2 / 2048 : Nat) : Int) := fdiv_nat (b2 s 2) 11
  have f2 : bitw .and .i64 ((b2 s 2 / 2048 : Nat) : Int) 15 = ((b2 s 2 / 2048 % 16 : Nat) : Int) := and_low (k := 4) (by omega) (by decide)
  have f3 : bitw .and .i64 ((b2 s 2 : Nat) : Int) 15 = ((b2 s 2 % 16 : Nat) : Int) := and_low (k := 4) (by omega) (by decide)
  have g2 : (2 : Int) ≤ ((12 : Nat) : Int) := by omega
  have g4 : (4 : Int) ≤ ((12 : Nat) : Int) := by omega
  have g6 : (6 : Int) ≤ ((12 : Nat) : Int) := by omega
  have g8 : (8 : Int) ≤ ((12 : Nat) : Int) := by omega
  have g10 : (10 : Int) ≤ ((12 : Nat) : Int) := by omega
  simp -implicitDefEqProofs only [x_q, x_o, x_b, x_k, x_x, x_r, x_it, x_if, x_p, p_nil, p_on, p_off, p_mv, p_pk, p_bn, p_un, p_be, p_nl, p_eqa, p_ci, p_cbs, p_csb, p_ex, p_bd, p_fd, p_ix, p_ixa, p_ss, p_sl, p_sla, p_ln, p_lns, p_lnm, p_al, p_bx, p_lal, p_lbx, p_ld, p_st, p_fa, p_ia, p_iaa, p_bs, p_lbs, p_mk, p_ap, p_cp, p_cl, p_cv, p_mf, p_nc, p_mm, p_mkm, p_lk, p_mu, p_dl, p_rs, p_nx, cfC, lgPut, isOk, rv, rh, Bool.false_eq_true, d_nil, d_on, d_off, d_mv, d_pk, d_bn, d_un, d_be, d_nl, d_eqa, d_ci, d_cbs, d_csb, d_ex, d_bd, d_fd, d_ix, d_ixa, d_ss, d_sl, d_sla, d_ln, d_lns, d_lnm, d_al, d_bx, d_lal, d_lbx, d_ld, d_st, d_fa, d_ia, d_iaa, d_bs, d_lbs, d_mk, d_ap, d_cp, d_cl, d_cv, d_mf, d_nc, d_mm, d_mkm, d_lk, d_mu, d_dl, d_rs, d_nx, okO, vlO, mmO, dsO, putE, args, evT, evs, evO, look, kOps, kSeq, kBlk, keepE, reduceIte, Nat.reduceEqDiff, binC, binV, intC, intV, strC, strV, unC, unV, AV.isI, AV.isB, AV.isS, AV.toI, AV.toK, AV.toS, allOut, o_b, o_i, o_s, o_np, o_pv, o_pe, o_ns, o_sl, o_nm, o_mp, o_nf, o_fn, o_ag, q_b, q_i, q_s, q_np, q_pv, q_pe, q_ns, q_sl, q_nm, q_mp, q_nf, q_fn, q_ag, Bool.and_true, Bool.and_self, Bool.true_and, AV.b.injEq, decide_eq_true_eq, decide_eq_false_iff_not, true_and, and_true, and_self, reduceCtorEq, imp_self, implies_true, forall_const, eq_self, ex_tp, ex_ag, List.getD_cons_zero, List.getD_cons_succ, List.length_cons, List.length_nil, Nat.reduceAdd, Nat.reduceLT, Nat.zero_add, bne_self_eq_false, decide_true, decide_false, eq_self, true_implies, false_implies, forall_const, Bool.true_eq_false, Bool.not_true, Bool.not_false, not_true_eq_false, not_false_eq_true, if_true, if_false, pickV, cond_true, cond_false, boolV, fillEC, fillE, List.replicate, List.set, Mem.newL, Mem.keep, Int.reduceToNat, Nat.reduceSub, List.drop_zero, Int.reduceLE, Int.le_refl, Nat.sub_zero, Mem.newL, Mem.newL, Mem.getL, Mem.hasL, lookL, setL, dropL, keepL, memN, la_faC, la_faV, la_ldC, la_ldX, la_stC, la_stM, partOf, partFits, setEl, setPart, Option.isSome_some, Option.getD_some, List.take_succ_cons, List.take_zero, List.drop_succ_cons, List.drop_zero, List.nil_append, List.cons_append, List.getD_cons_zero, List.getD_cons_succ, List.length_cons, List.length_nil, List.set_cons_zero, List.append_nil, List.drop_nil, List.take_nil, Nat.reduceAdd, Nat.reduceLT, Nat.reduceLeDiff, Nat.zero_add, Nat.add_zero, Nat.lt_add_one, Nat.le_refl, Nat.zero_le, Nat.zero_lt_succ, fillP, fillC, Nat.reduceLeDiff, lgAt, isRd, lgAt, isRd, l1, l2, hlt, s1, s2, c1, c2, hs, toNat_nat, g2, g4, g6, g8, g10, u0, u2, u4, u6, u8, u10, b15, b10, b9, b8, b7, b6, b5, b4, f1, f2, f3, endK, rsC, rsV, resV, eH, Enc.v, cntV, hdOf]
theorem r_take {id : Nat} {a : AV} {l : List UInt8} {p n : Nat} {code : Int} {H : AH} (h : Dec H id a l p code) (hn : n ≤ 1099511627776) :
    Runs C c_impl_decoder_take [.pv id 0, .i .i64 n] H fun v H' => v = .s (takeR l p n code).1 ∧ Dec H' id a l (takeR l p n code).2.1 (takeR l p n code).2.2 ∧ Kp [id] H H' := by
  unfold Runs c_impl_decoder_take
  obtain ⟨⟨d1, d2, d3⟩, d4, d5, d6⟩ := h.lds
  obtain ⟨l1, l2⟩ := h.b.len
  have hl := h.hl; have hp := h.hp
  have z1 : (0 : Int) ≤ (n : Int) := by omega
  have z3 : (n : Int) ≤ 9223372036854775807 := by omega
  have z4 : (n : Int) * ((1 : Nat) : Int) ≤ 281474976710656 := by omega
  have hw : IntKind.i64.wrap ((p : Int) + (n : Int)) = ((p + n : Nat) : Int) := by rw [w64 (by omega) (by omega)]; omega
  have bad : ∀ (H : AH), Byt (H.new (.arr true 0 1 (List.replicate n (.i .u8 0)))) (.sl H.n 0 n) (List.replicate n 0) := fun H => by
    rw [rep_enc]; exact (Mb.new2 (by simp)).sl
  by_cases hc : code = 0
  · subst hc
    by_cases hb : (l.length : Int) < ((p + n : Nat) : Int)
    · obtain ⟨s1, H1, s2, s3, s4⟩ := h.st.2 8
      obtain ⟨⟨e1, e2, e3⟩, e4, e5, e6⟩ := s3.lds
      obtain ⟨c1, c2⟩ := (bad H1).cbs
      simp -implicitDefEqProofs only [x_q, x_o, x_b, x_k, x_x, x_r, x_it, x_if, x_p, p_nil, p_on, p_off, p_mv, p_pk, p_bn, p_un, p_be, p_nl, p_eqa, p_ci, p_cbs, p_csb, p_ex, p_bd, p_fd, p_ix, p_ixa, p_ss, p_sl, p_sla, p_ln, p_lns, p_lnm, p_al, p_bx, p_lal, p_lbx, p_ld, p_st, p_fa, p_ia, p_iaa, p_bs, p_lbs, p_mk, p_ap, p_cp, p_cl, p_cv, p_mf, p_nc, p_mm, p_mkm, p_lk, p_mu, p_dl, p_rs, p_nx, cfC, lgPut, isOk, rv, rh, Bool.false_eq_true, d_nil, d_on, d_off, d_mv, d_pk, d_bn, d_un, d_be, d_nl, d_eqa, d_ci, d_cbs, d_csb, d_ex, d_bd, d_fd, d_ix, d_ixa, d_ss, d_sl, d_sla, d_ln, d_lns, d_lnm, d_al, d_bx, d_lal, d_lbx, d_ld, d_st, d_fa, d_ia, d_iaa, d_bs, d_lbs, d_mk, d_ap, d_cp, d_cl, d_cv, d_mf, d_nc, d_mm, d_mkm, d_lk, d_mu, d_dl, d_rs, d_nx, okO, vlO, mmO, dsO, putE, args, evT, evs, evO, look, kOps, kSeq, kBlk, keepE, reduceIte, Nat.reduceEqDiff, binC, binV, intC, intV, strC, strV, unC, unV, AV.isI, AV.isB, AV.isS, AV.toI, AV.toK, AV.toS, allOut, o_b, o_i, o_s, o_np, o_pv, o_pe, o_ns, o_sl, o_nm, o_mp, o_nf, o_fn, o_ag, q_b, q_i, q_s, q_np, q_pv, q_pe, q_ns, q_sl, q_nm, q_mp, q_nf, q_fn, q_ag, Bool.and_true, Bool.and_self, Bool.true_and, AV.b.injEq, decide_eq_true_eq, decide_eq_false_iff_not, true_and, and_true, and_self, reduceCtorEq, imp_self, implies_true, forall_const, eq_self, ex_tp, ex_ag, List.getD_cons_zero, List.getD_cons_succ, List.length_cons, List.length_nil, Nat.reduceAdd, Nat.reduceLT, Nat.zero_add, bne_self_eq_false, decide_true, decide_false, eq_self, true_implies, false_implies, forall_const, Bool.true_eq_false, Bool.not_true, Bool.not_false, not_true_eq_false, not_false_eq_true, if_true, if_false, pickV, cond_true, cond_false, boolV, fillEC, fillE, List.replicate, List.set, Mem.newL, Mem.keep, Int.reduceToNat, Nat.reduceSub, List.drop_zero, Int.reduceLE, Int.le_refl, Nat.sub_zero, Mem.newL, Mem.newL, Mem.getL, Mem.hasL, lookL, setL, dropL, keepL, memN, la_faC, la_faV, la_ldC, la_ldX, la_stC, la_stM, partOf, partFits, setEl, setPart, Option.isSome_some, Option.getD_some, List.take_succ_cons, List.take_zero, List.drop_succ_cons, List.drop_zero, List.nil_append, List.cons_append, List.getD_cons_zero, List.getD_cons_succ, List.length_cons, List.length_nil, List.set_cons_zero, List.append_nil, List.drop_nil, List.take_nil, Nat.reduceAdd, Nat.reduceLT, Nat.reduceLeDiff, Nat.zero_add, Nat.add_zero, Nat.lt_add_one, Nat.le_refl, Nat.zero_le, Nat.zero_lt_succ, fillP, fillC, Nat.reduceLeDiff, lgAt, isRd, pv_faC, pv_faV, d1, d2, d3, d4, d5, d6, l1, l2, hw, hb, s1, s2, e1, e2, e3, e4, e5, e6, Int.reduceEq, z1, z3, z4, toNat_nat, c1, c2, endK, rsC, rsV, resV]
      unfold takeR
      rw [if_pos rfl, if_neg (by omega)]
      exact ⟨rfl, s3.ext (.new _ _), s4.trans (.ext (.new _ _))⟩
    · obtain ⟨s1, H1, s2, s3, s4⟩ := h.st.1 (p + n) (by omega)
      obtain ⟨⟨e1, e2, e3⟩, e4, e5, e6⟩ := s3.lds
      obtain ⟨t1, t2, t3⟩ := s3.b.sub s3.cl (lo := p) (hi := (p + n : Nat)) (by omega) (by omega) (by simp; omega)
      have t3' : Byt H1 (slV p (p + n) a) ((l.drop p).take n) := by
        have e : ((encB l).drop (p : Int).toNat).take (((p + n : Nat) : Int).toNat - (p : Int).toNat) = encB ((l.drop p).take n) := by
          rw [toNat_nat, toNat_nat, Nat.add_sub_cancel_left, enc_drop, enc_take]
        rw [e] at t3; exact t3
      obtain ⟨c1, c2⟩ := t3'.cbs
      have hw2 : IntKind.i64.wrap (((p + n : Nat) : Int) - (n : Int)) = (p : Int) := by rw [w64 (by omega) (by omega)]; omega
      simp -implicitDefEqProofs only [x_q, x_o, x_b, x_k, x_x, x_r, x_it, x_if, x_p, p_nil, p_on, p_off, p_mv, p_pk, p_bn, p_un, p_be, p_nl, p_eqa, p_ci, p_cbs, p_csb, p_ex, p_bd, p_fd, p_ix, p_ixa, p_ss, p_sl, p_sla, p_ln, p_lns, p_lnm, p_al, p_bx, p_lal, p_lbx, p_ld, p_st, p_fa, p_ia, p_iaa, p_bs, p_lbs, p_mk, p_ap, p_cp, p_cl, p_cv, p_mf, p_nc, p_mm, p_mkm, p_lk, p_mu, p_dl, p_rs, p_nx, cfC, lgPut, isOk, rv, rh, Bool.false_eq_true, d_nil, d_on, d_off, d_mv, d_pk, d_bn, d_un, d_be, d_nl, d_eqa, d_ci, d_cbs, d_csb, d_ex, d_bd, d_fd, d_ix, d_ixa, d_ss, d_sl, d_sla, d_ln, d_lns, d_lnm, d_al, d_bx, d_lal, d_lbx, d_ld, d_st, d_fa, d_ia, d_iaa, d_bs, d_lbs, d_mk, d_ap, d_cp, d_cl, d_cv, d_mf, d_nc, d_mm, d_mkm, d_lk, d_mu, d_dl, d_rs, d_nx, okO, vlO, mmO, dsO, putE, args, evT, evs, evO, look, kOps, kSeq, kBlk, keepE, reduceIte, Nat.reduceEqDiff, binC, binV, intC, intV, strC, strV, unC, unV, AV.isI, AV.isB, AV.isS, AV.toI, AV.toK, AV.toS, allOut, o_b, o_i, o_s, o_np, o_pv, o_pe, o_ns, o_sl, o_nm, o_mp, o_nf, o_fn, o_ag, q_b, q_i, q_s, q_np, q_pv, q_pe, q_ns, q_sl, q_nm, q_mp, q_nf, q_fn, q_ag, Bool.and_true, Bool.and_self, Bool.true_and, AV.b.injEq, decide_eq_true_eq, decide_eq_false_iff_not, true_and, and_true, and_self, reduceCtorEq, imp_self, implies_true, forall_const, eq_self, ex_tp, ex_ag, List.getD_cons_zero, List.getD_cons_succ, List.length_cons, List.length_nil, Nat.reduceAdd, Nat.reduceLT, Nat.zero_add, bne_self_eq_false, decide_true, decide_false, eq_self, true_implies, false_implies, forall_const, Bool.true_eq_false, Bool.not_true, Bool.not_false, not_true_eq_false, not_false_eq_true, if_true, if_false, pickV, cond_true, cond_false, boolV, fillEC, fillE, List.replicate, List.set, Mem.newL, Mem.keep, Int.reduceToNat, Nat.reduceSub, List.drop_zero, Int.reduceLE, Int.le_refl, Nat.sub_zero, Mem.newL, Mem.newL, Mem.getL, Mem.hasL, lookL, setL, dropL, keepL, memN, la_faC, la_faV, la_ldC, la_ldX, la_stC, la_stM, partOf, partFits, setEl, setPart, Option.isSome_some, Option.getD_some, List.take_succ_cons, List.take_zero, List.drop_succ_cons, List.drop_zero, List.nil_append, List.cons_append, List.getD_cons_zero, List.getD_cons_succ, List.length_cons, List.length_nil, List.set_cons_zero, List.append_nil, List.drop_nil, List.take_nil, Nat.reduceAdd, Nat.reduceLT, Nat.reduceLeDiff, Nat.zero_add, Nat.add_zero, Nat.lt_add_one, Nat.le_refl, Nat.zero_le, Nat.zero_lt_succ, fillP, fillC, Nat.reduceLeDiff, lgAt, isRd, pv_faC, pv_faV, d1, d2, d3, d4, d5, d6, l1, l2, hw, hb, s1, s2, e1, e2, e3, e4, e5, e6, Int.reduceEq, hw2, t1, t2, toNat_nat, c1, c2, endK, rsC, rsV, resV]
      unfold takeR
      rw [if_pos rfl, if_pos (by omega)]
      exact ⟨rfl, s3, s4⟩
  · obtain ⟨c1, c2⟩ := (bad H).cbs
    simp -implicitDefEqProofs only [x_q, x_o, x_b, x_k, x_x, x_r, x_it, x_if, x_p, p_nil, p_on, p_off, p_mv, p_pk, p_bn, p_un, p_be, p_nl, p_eqa, p_ci, p_cbs, p_csb, p_ex, p_bd, p_fd, p_ix, p_ixa, p_ss, p_sl, p_sla, p_ln, p_lns, p_lnm, p_al, p_bx, p_lal, p_lbx, p_ld, p_st, p_fa, p_ia, p_iaa, p_bs, p_lbs, p_mk, p_ap, p_cp, p_cl, p_cv, p_mf, p_nc, p_mm, p_mkm, p_lk, p_mu, p_dl, p_rs, p_nx, cfC, lgPut, isOk, rv, rh, Bool.false_eq_true, d_nil, d_on, d_off, d_mv, d_pk, d_bn, d_un, d_be, d_nl, d_eqa, d_ci, d_cbs, d_csb, d_ex, d_bd, d_fd, d_ix, d_ixa, d_ss, d_sl, d_sla, d_ln, d_lns, d_lnm, d_al, d_bx, d_lal, d_lbx, d_ld, d_st, d_fa, d_ia, d_iaa, d_bs, d_lbs, d_mk, d_ap, d_cp, d_cl, d_cv, d_mf, d_nc, d_mm, d_mkm, d_lk, d_mu, d_dl, d_rs, d_nx, okO, vlO, mmO, dsO, putE, args, evT, evs, evO, look, kOps, kSeq, kBlk, keepE, reduceIte, Nat.reduceEqDiff, binC, binV, intC, intV, strC, strV, unC, unV, AV.isI, AV.isB, AV.isS, AV.toI, AV.toK, AV.toS, allOut, o_b, o_i, o_s, o_np, o_pv, o_pe, o_ns, o_sl, o_nm, o_mp, o_nf, o_fn, o_ag, q_b, q_i, q_s, q_np, q_pv, q_pe, q_ns, q_sl, q_nm, q_mp, q_nf, q_fn, q_ag, Bool.and_true, Bool.and_self, Bool.true_and, AV.b.injEq, decide_eq_true_eq, decide_eq_false_iff_not, true_and, and_true, and_self, reduceCtorEq, imp_self, implies_true, forall_const, eq_self, ex_tp, ex_ag, List.getD_cons_zero, List.getD_cons_succ, List.length_cons, List.length_nil, Nat.reduceAdd, Nat.reduceLT, Nat.zero_add, bne_self_eq_false, decide_true, decide_false, eq_self, true_implies, false_implies, forall_const, Bool.true_eq_false, Bool.not_true, Bool.not_false, not_true_eq_false, not_false_eq_true, if_true, if_false, pickV, cond_true, cond_false, boolV, fillEC, fillE, List.replicate, List.set, Mem.newL, Mem.keep, Int.reduceToNat, Nat.reduceSub, List.drop_zero, Int.reduceLE, Int.le_refl, Nat.sub_zero, Mem.newL, Mem.newL, Mem.getL, Mem.hasL, lookL, setL, dropL, keepL, memN, la_faC, la_faV, la_ldC, la_ldX, la_stC, la_stM, partOf, partFits, setEl, setPart, Option.isSome_some, Option.getD_some, List.take_succ_cons, List.take_zero, List.drop_succ_cons, List.drop_zero, List.nil_append, List.cons_append, List.getD_cons_zero, List.getD_cons_succ, List.length_cons, List.length_nil, List.set_cons_zero, List.append_nil, List.drop_nil, List.take_nil, Nat.reduceAdd, Nat.reduceLT, Nat.reduceLeDiff, Nat.zero_add, Nat.add_zero, Nat.lt_add_one, Nat.le_refl, Nat.zero_le, Nat.zero_lt_succ, fillP, fillC, Nat.reduceLeDiff, lgAt, isRd, pv_faC, pv_faV, d1, d2, d3, d4, d5, d6, hc, z1, z3, z4, toNat_nat, c1, c2, endK, rsC, rsV, resV]
    unfold takeR
    rw [if_neg hc]
    exact ⟨rfl, h.ext (.new _ _), .ext (.new _ _)⟩
theorem r_DecodeName0 {a : AV} {l : List UInt8} {p : Nat} {H : AH} (h : Byt H a l) (hl : l.length ≤ 65535) (hp : p < l.length) (h0 : l.getD p 0 = 0) :
    Runs C c_impl_DecodeName [a, .i .i64 p] H fun v H' => v = .tp [.s [0], .i .i64 (p + 1 : Nat), .i .i64 0] ∧ Ext H H' := by
  unfold Runs c_impl_DecodeName
  obtain ⟨l1, l2⟩ := h.len
  have oa := h.out
  have p0 : ¬ (p : Int) < 0 := by omega
  have p1 : ¬ (l.length : Int) < p := by omega
  have p2 : ¬ (l.length : Int) ≤ p := by omega
  simp -implicitDefEqProofs only [x_q, x_o, x_b, x_k, x_x, x_r, x_it, x_if, x_p, p_nil, p_on, p_off, p_mv, p_pk, p_bn, p_un, p_be, p_nl, p_eqa, p_ci, p_cbs, p_csb, p_ex, p_bd, p_fd, p_ix, p_ixa, p_ss, p_sl, p_sla, p_ln, p_lns, p_lnm, p_al, p_bx, p_lal, p_lbx, p_ld, p_st, p_fa, p_ia, p_iaa, p_bs, p_lbs, p_mk, p_ap, p_cp, p_cl, p_cv, p_mf, p_nc, p_mm, p_mkm, p_lk, p_mu, p_dl, p_rs, p_nx, cfC, lgPut, isOk, rv, rh, Bool.false_eq_true, d_nil, d_on, d_off, d_mv, d_pk, d_bn, d_un, d_be, d_nl, d_eqa, d_ci, d_cbs, d_csb, d_ex, d_bd, d_fd, d_ix, d_ixa, d_ss, d_sl, d_sla, d_ln, d_lns, d_lnm, d_al, d_bx, d_lal, d_lbx, d_ld, d_st, d_fa, d_ia, d_iaa, d_bs, d_lbs, d_mk, d_ap, d_cp, d_cl, d_cv, d_mf, d_nc, d_mm, d_mkm, d_lk, d_mu, d_dl, d_rs, d_nx, okO, vlO, mmO, dsO, putE, args, evT, evs, evO, look, kOps, kSeq, kBlk, keepE, reduceIte, Nat.reduceEqDiff, binC, binV, intC, intV, strC, strV, unC, unV, AV.isI, AV.isB, AV.isS, AV.toI, AV.toK, AV.toS, allOut, o_b, o_i, o_s, o_np, o_pv, o_pe, o_ns, o_sl, o_nm, o_mp, o_nf, o_fn, o_ag, q_b, q_i, q_s, q_np, q_pv, q_pe, q_ns, q_sl, q_nm, q_mp, q_nf, q_fn, q_ag, Bool.and_true, Bool.and_self, Bool.true_and, AV.b.injEq, decide_eq_true_eq, decide_eq_false_iff_not, true_and, and_true, and_self, reduceCtorEq, imp_self, implies_true, forall_const, eq_self, ex_tp, ex_ag, List.getD_cons_zero, List.getD_cons_succ, List.length_cons, List.length_nil, Nat.reduceAdd, Nat.reduceLT, Nat.zero_add, bne_self_eq_false, decide_true, decide_false, eq_self, true_implies, false_implies, forall_const, Bool.true_eq_false, Bool.not_true, Bool.not_false, not_true_eq_false, not_false_eq_true, if_true, if_false, pickV, cond_true, cond_false, boolV, fillEC, fillE, List.replicate, List.set, Mem.newL, Mem.keep, Int.reduceToNat, Nat.reduceSub, List.drop_zero, Int.reduceLE, Int.le_refl, Nat.sub_zero, Mem.newL, Mem.newL, Mem.getL, Mem.hasL, lookL, setL, dropL, keepL, memN, la_faC, la_faV, la_ldC, la_ldX, la_stC, la_stM, partOf, partFits, setEl, setPart, Option.isSome_some, Option.getD_some, List.take_succ_cons, List.take_zero, List.drop_succ_cons, List.drop_zero, List.nil_append, List.cons_append, List.getD_cons_zero, List.getD_cons_succ, List.length_cons, List.length_nil, List.set_cons_zero, List.append_nil, List.drop_nil, List.take_nil, Nat.reduceAdd, Nat.reduceLT, Nat.reduceLeDiff, Nat.zero_add, Nat.add_zero, Nat.lt_add_one, Nat.le_refl, Nat.zero_le, Nat.zero_lt_succ, fillP, fillC, Nat.reduceLeDiff, lgAt, isRd, l1, l2, p0, p1]
  refine exec_loop (fun n e M => look e 0 = a ∧ look e 7 = .i .i64 p ∧ look e 8 = .i .i64 p ∧ look e 9 = .i .i64 (-1) ∧ look e 10 = .ns ∧ ∃ L g, M = ⟨L, g, H⟩) ?_ (n := 0) ⟨rfl, rfl, rfl, rfl, rfl, _, _, rfl⟩
  rintro n e M ⟨q0, q7, q8, q9, q10, L, g, rfl⟩
  have ia := fun (L : List Lv) (g : Nat) => h.ia (j := p) (by omega) (by omega) L g
  rw [toNat_nat, h0] at ia
  obtain ⟨z1, z2, -⟩ := ia [] 0
  have w0 : IntKind.i64.wrap 0 = 0 := by decide
  have w1 : IntKind.i64.wrap ((p : Int) + 1) = ((p + 1 : Nat) : Int) := by rw [w64 (by omega) (by omega)]; rfl
  obtain ⟨p1', o', H1, p2', p3', p4', p5', p6', p7'⟩ := Mn.ap (H := H) (z := 1) (a := .ns) (els := []) (by' := 1) .nil (lit_src (t := 64) (g := g) (x := .i .u8 0) (L := dropL (keepL [0, 7, 8, 9, 10] L) 64)) (by simp)
  have hb : Byt H1 o' [0] := p4'.sl
  obtain ⟨c1, c2⟩ := hb.cbs
  simp -implicitDefEqProofs only [x_q, x_o, x_b, x_k, x_x, x_r, x_it, x_if, x_p, p_nil, p_on, p_off, p_mv, p_pk, p_bn, p_un, p_be, p_nl, p_eqa, p_ci, p_cbs, p_csb, p_ex, p_bd, p_fd, p_ix, p_ixa, p_ss, p_sl, p_sla, p_ln, p_lns, p_lnm, p_al, p_bx, p_lal, p_lbx, p_ld, p_st, p_fa, p_ia, p_iaa, p_bs, p_lbs, p_mk, p_ap, p_cp, p_cl, p_cv, p_mf, p_nc, p_mm, p_mkm, p_lk, p_mu, p_dl, p_rs, p_nx, cfC, lgPut, isOk, rv, rh, Bool.false_eq_true, d_nil, d_on, d_off, d_mv, d_pk, d_bn, d_un, d_be, d_nl, d_eqa, d_ci, d_cbs, d_csb, d_ex, d_bd, d_fd, d_ix, d_ixa, d_ss, d_sl, d_sla, d_ln, d_lns, d_lnm, d_al, d_bx, d_lal, d_lbx, d_ld, d_st, d_fa, d_ia, d_iaa, d_bs, d_lbs, d_mk, d_ap, d_cp, d_cl, d_cv, d_mf, d_nc, d_mm, d_mkm, d_lk, d_mu, d_dl, d_rs, d_nx, okO, vlO, mmO, dsO, putE, args, evT, evs, evO, look, kOps, kSeq, kBlk, keepE, reduceIte, Nat.reduceEqDiff, binC, binV, intC, intV, strC, strV, unC, unV, AV.isI, AV.isB, AV.isS, AV.toI, AV.toK, AV.toS, allOut, o_b, o_i, o_s, o_np, o_pv, o_pe, o_ns, o_sl, o_nm, o_mp, o_nf, o_fn, o_ag, q_b, q_i, q_s, q_np, q_pv, q_pe, q_ns, q_sl, q_nm, q_mp, q_nf, q_fn, q_ag, Bool.and_true, Bool.and_self, Bool.true_and, AV.b.injEq, decide_eq_true_eq, decide_eq_false_iff_not, true_and, and_true, and_self, reduceCtorEq, imp_self, implies_true, forall_const, eq_self, ex_tp, ex_ag, List.getD_cons_zero, List.getD_cons_succ, List.length_cons, List.length_nil, Nat.reduceAdd, Nat.reduceLT, Nat.zero_add, bne_self_eq_false, decide_true, decide_false, eq_self, true_implies, false_implies, forall_const, Bool.true_eq_false, Bool.not_true, Bool.not_false, not_true_eq_false, not_false_eq_true, if_true, if_false, pickV, cond_true, cond_false, boolV, fillEC, fillE, List.replicate, List.set, Mem.newL, Mem.keep, Int.reduceToNat, Nat.reduceSub, List.drop_zero, Int.reduceLE, Int.le_refl, Nat.sub_zero, Mem.newL, Mem.newL, Mem.getL, Mem.hasL, lookL, setL, dropL, keepL, memN, la_faC, la_faV, la_ldC, la_ldX, la_stC, la_stM, partOf, partFits, setEl, setPart, Option.isSome_some, Option.getD_some, List.take_succ_cons, List.take_zero, List.drop_succ_cons, List.drop_zero, List.nil_append, List.cons_append, List.getD_cons_zero, List.getD_cons_succ, List.length_cons, List.length_nil, List.set_cons_zero, List.append_nil, List.drop_nil, List.take_nil, Nat.reduceAdd, Nat.reduceLT, Nat.reduceLeDiff, Nat.zero_add, Nat.add_zero, Nat.lt_add_one, Nat.le_refl, Nat.zero_le, Nat.zero_lt_succ, fillP, fillC, Nat.reduceLeDiff, lgAt, isRd, toNat_nat, q0, q7, q8, q9, q10, l1, l2, p2, z1, z2, ia, UInt8.toNat_zero, Int.natCast_zero, w0, w1, Int.reduceLT, fillEC, fillE, List.replicate, List.set]

  simp -implicitDefEqProofs only [x_q, x_o, x_b, x_k, x_x, x_r, x_it, x_if, x_p, p_nil, p_on, p_off, p_mv, p_pk, p_bn, p_un, p_be, p_nl, p_eqa, p_ci, p_cbs, p_csb, p_ex, p_bd, p_fd, p_ix, p_ixa, p_ss, p_sl, p_sla, p_ln, p_lns, p_lnm, p_al, p_bx, p_lal, p_lbx, p_ld, p_st, p_fa, p_ia, p_iaa, p_bs, p_lbs, p_mk, p_ap, p_cp, p_cl, p_cv, p_mf, p_nc, p_mm, p_mkm, p_lk, p_mu, p_dl, p_rs, p_nx, cfC, lgPut, isOk, rv, rh, Bool.false_eq_true, d_nil, d_on, d_off, d_mv, d_pk, d_bn, d_un, d_be, d_nl, d_eqa, d_ci, d_cbs, d_csb, d_ex, d_bd, d_fd, d_ix, d_ixa, d_ss, d_sl, d_sla, d_ln, d_lns, d_lnm, d_al, d_bx, d_lal, d_lbx, d_ld, d_st, d_fa, d_ia, d_iaa, d_bs, d_lbs, d_mk, d_ap, d_cp, d_cl, d_cv, d_mf, d_nc, d_mm, d_mkm, d_lk, d_mu, d_dl, d_rs, d_nx, okO, vlO, mmO, dsO, putE, args, evT, evs, evO, look, kOps, kSeq, kBlk, keepE, reduceIte, Nat.reduceEqDiff, binC, binV, intC, intV, strC, strV, unC, unV, AV.isI, AV.isB, AV.isS, AV.toI, AV.toK, AV.toS, allOut, o_b, o_i, o_s, o_np, o_pv, o_pe, o_ns, o_sl, o_nm, o_mp, o_nf, o_fn, o_ag, q_b, q_i, q_s, q_np, q_pv, q_pe, q_ns, q_sl, q_nm, q_mp, q_nf, q_fn, q_ag, Bool.and_true, Bool.and_self, Bool.true_and, AV.b.injEq, decide_eq_true_eq, decide_eq_false_iff_not, true_and, and_true, and_self, reduceCtorEq, imp_self, implies_true, forall_const, eq_self, ex_tp, ex_ag, List.getD_cons_zero, List.getD_cons_succ, List.length_cons, List.length_nil, Nat.reduceAdd, Nat.reduceLT, Nat.zero_add, bne_self_eq_false, decide_true, decide_false, eq_self, true_implies, false_implies, forall_const, Bool.true_eq_false, Bool.not_true, Bool.not_false, not_true_eq_false, not_false_eq_true, if_true, if_false, pickV, cond_true, cond_false, boolV, fillEC, fillE, List.replicate, List.set, Mem.newL, Mem.keep, Int.reduceToNat, Nat.reduceSub, List.drop_zero, Int.reduceLE, Int.le_refl, Nat.sub_zero, Mem.newL, Mem.newL, Mem.getL, Mem.hasL, lookL, setL, dropL, keepL, memN, la_faC, la_faV, la_ldC, la_ldX, la_stC, la_stM, partOf, partFits, setEl, setPart, Option.isSome_some, Option.getD_some, List.take_succ_cons, List.take_zero, List.drop_succ_cons, List.drop_zero, List.nil_append, List.cons_append, List.getD_cons_zero, List.getD_cons_succ, List.length_cons, List.length_nil, List.set_cons_zero, List.append_nil, List.drop_nil, List.take_nil, Nat.reduceAdd, Nat.reduceLT, Nat.reduceLeDiff, Nat.zero_add, Nat.add_zero, Nat.lt_add_one, Nat.le_refl, Nat.zero_le, Nat.zero_lt_succ, fillP, fillC, Nat.reduceLeDiff, lgAt, isRd, p1', p2', p3', c1, c2, endK, rsC, rsV, resV]
  exact ⟨p5', fun i hi => p6' i hi (by simp [idA])⟩
end
end Go.Vm

/- The reader of messages: the reader's names and records (of the root, without names in their data). -/
namespace Go.Vm
set_option linter.unusedVariables false
set_option linter.unusedSimpArgs false
theorem num_be16 {n : Nat} (h : n ≤ 65535) : num (be16 n) 0 = n := by
  unfold be16
  rw [num2]
  simp only [UInt8.toNat_ofNat']
  omega
theorem num_be32 {n : Nat} (h : n ≤ 4294967295) : num (be32 n) 0 = n := by
  unfold be32
  rw [num4]
  simp only [UInt8.toNat_ofNat']
  omega
theorem be16_len (n : Nat) : (be16 n).length = 2 := rfl
theorem be32_len (n : Nat) : (be32 n).length = 4 := rfl
theorem takeR_at {l A B R : List UInt8} {n : Nat} (hl : l = A ++ (B ++ R)) (hn : B.length = n) : takeR l A.length n 0 = (B, A.length + n, 0) := by
  unfold takeR
  rw [if_pos rfl, if_pos (by rw [hl]; simp; omega), hl, List.drop_left, ← hn, List.take_left]
def T_decRecord1 (C : Tab) (f : Nat) : Prop := ∀ (id : Nat) (a : AV) (l pre : List UInt8) (r : Rr) (H : AH), Dec H id a l pre.length 0 → l = pre ++ recB r → Plain r → formless r.t → FormsOK H →
  ∃ v H', C f [.pv id 0] H = some (v, H') ∧ v = eR.v r ∧ Dec H' id a l l.length 0 ∧ Kp [id] H H'
theorem FormsOK.kp {H H' : AH} {id : Nat} {cs : List AV} (h : FormsOK H) (ho : Obj1 H id cs) (hc : cs.length ≠ 1) (hk : Kp [id] H H') : FormsOK H' := by
  obtain ⟨rw, mid, es, h1, h2, h3, h4, h5⟩ := h
  have g1 : ¬ gForms ∈ [id] := fun e => by
    rw [List.mem_singleton] at e
    rw [e, ho.at'] at h1
    injection h1 with _ _ h1
    exact hc h1
  have g2 : ¬ mid ∈ [id] := fun e => by
    rw [List.mem_singleton] at e
    rw [e, ho.at'] at h2
    cases h2
  exact ⟨rw, mid, es, (hk.at' _ h3 g1).trans h1, (hk.at' _ h4 g2).trans h2, Nat.lt_of_lt_of_le h3 hk.n, Nat.lt_of_lt_of_le h4 hk.n, h5⟩
section
variable {C : Tab}
theorem r_decName0 {id : Nat} {a : AV} {l : List UInt8} {p : Nat} {H : AH} (hD : T_DecodeName0 C n_impl_DecodeName) (h : Dec H id a l p 0) (hp : p < l.length) (h0 : l.getD p 0 = 0) :
    Runs C c_impl_decoder_name [.pv id 0] H fun v H' => v = .s [0] ∧ Dec H' id a l (p + 1) 0 ∧ Kp [id] H H' := by
  unfold Runs c_impl_decoder_name
  obtain ⟨⟨d1, d2, d3⟩, d4, d5, d6⟩ := h.lds
  obtain ⟨v, H1, k1, rfl, e1⟩ := hD a l p H h.b h.hl hp h0
  have oa := h.b.out
  obtain ⟨s1, H2, s2, s3, s4⟩ := (h.ext e1).st.2 0
  obtain ⟨t1, H3, t2, t3, t4⟩ := s3.st.1 (p + 1) (by omega)
  simp -implicitDefEqProofs only [x_q, x_o, x_b, x_k, x_x, x_r, x_it, x_if, x_p, p_nil, p_on, p_off, p_mv, p_pk, p_bn, p_un, p_be, p_nl, p_eqa, p_ci, p_cbs, p_csb, p_ex, p_bd, p_fd, p_ix, p_ixa, p_ss, p_sl, p_sla, p_ln, p_lns, p_lnm, p_al, p_bx, p_lal, p_lbx, p_ld, p_st, p_fa, p_ia, p_iaa, p_bs, p_lbs, p_mk, p_ap, p_cp, p_cl, p_cv, p_mf, p_nc, p_mm, p_mkm, p_lk, p_mu, p_dl, p_rs, p_nx, cfC, lgPut, isOk, rv, rh, Bool.false_eq_true, d_nil, d_on, d_off, d_mv, d_pk, d_bn, d_un, d_be, d_nl, d_eqa, d_ci, d_cbs, d_csb, d_ex, d_bd, d_fd, d_ix, d_ixa, d_ss, d_sl, d_sla, d_ln, d_lns, d_lnm, d_al, d_bx, d_lal, d_lbx, d_ld, d_st, d_fa, d_ia, d_iaa, d_bs, d_lbs, d_mk, d_ap, d_cp, d_cl, d_cv, d_mf, d_nc, d_mm, d_mkm, d_lk, d_mu, d_dl, d_rs, d_nx, okO, vlO, mmO, dsO, putE, args, evT, evs, evO, look, kOps, kSeq, kBlk, keepE, reduceIte, Nat.reduceEqDiff, binC, binV, intC, intV, strC, strV, unC, unV, AV.isI, AV.isB, AV.isS, AV.toI, AV.toK, AV.toS, allOut, o_b, o_i, o_s, o_np, o_pv, o_pe, o_ns, o_sl, o_nm, o_mp, o_nf, o_fn, o_ag, q_b, q_i, q_s, q_np, q_pv, q_pe, q_ns, q_sl, q_nm, q_mp, q_nf, q_fn, q_ag, Bool.and_true, Bool.and_self, Bool.true_and, AV.b.injEq, decide_eq_true_eq, decide_eq_false_iff_not, true_and, and_true, and_self, reduceCtorEq, imp_self, implies_true, forall_const, eq_self, ex_tp, ex_ag, List.getD_cons_zero, List.getD_cons_succ, List.length_cons, List.length_nil, Nat.reduceAdd, Nat.reduceLT, Nat.zero_add, bne_self_eq_false, decide_true, decide_false, eq_self, true_implies, false_implies, forall_const, Bool.true_eq_false, Bool.not_true, Bool.not_false, not_true_eq_false, not_false_eq_true, if_true, if_false, pickV, cond_true, cond_false, boolV, fillEC, fillE, List.replicate, List.set, Mem.newL, Mem.keep, Int.reduceToNat, Nat.reduceSub, List.drop_zero, Int.reduceLE, Int.le_refl, Nat.sub_zero, Mem.newL, Mem.newL, Mem.getL, Mem.hasL, lookL, setL, dropL, keepL, memN, la_faC, la_faV, la_ldC, la_ldX, la_stC, la_stM, partOf, partFits, setEl, setPart, Option.isSome_some, Option.getD_some, List.take_succ_cons, List.take_zero, List.drop_succ_cons, List.drop_zero, List.nil_append, List.cons_append, List.getD_cons_zero, List.getD_cons_succ, List.length_cons, List.length_nil, List.set_cons_zero, List.append_nil, List.drop_nil, List.take_nil, Nat.reduceAdd, Nat.reduceLT, Nat.reduceLeDiff, Nat.zero_add, Nat.add_zero, Nat.lt_add_one, Nat.le_refl, Nat.zero_le, Nat.zero_lt_succ, fillP, fillC, Nat.reduceLeDiff, lgAt, isRd, pv_faC, pv_faV, d1, d2, d3, d4, d5, d6, oa, k1, s1, s2, t1, t2, endK, rsC, rsV, resV]
  exact ⟨t3, (Kp.ext e1).trans (s4.trans t4)⟩
set_option maxRecDepth 100000 in
theorem r_decRecord1 {id : Nat} {a : AV} {l pre : List UInt8} {r : Rr} {H : AH} (hN : T_decName0 C n_impl_decoder_name) (hT : T_take C n_impl_decoder_take) (hU : T_u16 C n_impl_u16) (hW : T_u32 C n_impl_u32) (hP : T_hasP C n_impl_hasPointers) (hC : T_CheckData0 C n_impl_CheckData)
    (h : Dec H id a l pre.length 0) (hl : l = pre ++ recB r) (hr : Plain r) (hf : formless r.t) (hF : FormsOK H) :
    Runs C c_impl_decoder_record [.pv id 0] H fun v H' => v = eR.v r ∧ Dec H' id a l l.length 0 ∧ Kp [id] H H' := by
  unfold Runs c_impl_decoder_record
  obtain ⟨ro, rt, rc, rttl, rd⟩ := r
  obtain ⟨x1, x2, x3, x4, x5, x6⟩ := hr
  simp only at x1 x2 x3 x4 x5 x6 hf
  subst x1
  have hl0 : l = pre ++ [0] ++ (be16 rt.toNat ++ (be16 rc.toNat ++ (be32 rttl.toNat ++ (be16 rd.length ++ rd)))) := by rw [hl]; simp [recB]
  have hlen : l.length = pre.length + 11 + rd.length := by rw [hl]; simp [recB, be16_len, be32_len]; omega
  obtain ⟨v1, H1, k1, rfl, s1, e1⟩ := hN id a l pre.length H h (by omega) (by rw [hl]; simp [recB])
  have p1 : pre.length + 1 = (pre ++ [0]).length := by simp
  rw [p1] at s1
  have g1 := takeR_at (n := 2) (l := l) (A := pre ++ [0]) (B := be16 rt.toNat) hl0 rfl
  obtain ⟨v2, H2, k2, rfl, s2, e2⟩ := hT id a l _ 2 0 H1 s1 (by omega)
  rw [g1] at k2 s2
  simp only [show ((2 : Nat) : Int) = 2 from rfl, show ((4 : Nat) : Int) = 4 from rfl] at k2 s2
  have p2 : (pre ++ [0]).length + 2 = (pre ++ [0] ++ be16 rt.toNat).length := by simp [be16_len]
  rw [p2] at s2
  have g2 := takeR_at (n := 2) (l := l) (A := pre ++ [0] ++ be16 rt.toNat) (B := be16 rc.toNat) (by rw [hl0, List.append_assoc (pre ++ [0])]) rfl
  obtain ⟨v3, H3, k3, rfl, s3, e3⟩ := hT id a l _ 2 0 H2 s2 (by omega)
  rw [g2] at k3 s3
  simp only [show ((2 : Nat) : Int) = 2 from rfl, show ((4 : Nat) : Int) = 4 from rfl] at k3 s3
  have p3 : (pre ++ [0] ++ be16 rt.toNat).length + 2 = (pre ++ [0] ++ be16 rt.toNat ++ be16 rc.toNat).length := by simp [be16_len]
  rw [p3] at s3
  have g3 := takeR_at (n := 4) (l := l) (A := pre ++ [0] ++ be16 rt.toNat ++ be16 rc.toNat) (B := be32 rttl.toNat) (R := be16 rd.length ++ rd) (by rw [hl0]; simp) rfl
  obtain ⟨v4, H4, k4, rfl, s4, e4⟩ := hT id a l _ 4 0 H3 s3 (by omega)
  rw [g3] at k4 s4
  simp only [show ((2 : Nat) : Int) = 2 from rfl, show ((4 : Nat) : Int) = 4 from rfl] at k4 s4
  have p4 : (pre ++ [0] ++ be16 rt.toNat ++ be16 rc.toNat).length + 4 = (pre ++ [0] ++ be16 rt.toNat ++ be16 rc.toNat ++ be32 rttl.toNat).length := by simp [be16_len, be32_len]
  rw [p4] at s4
  obtain ⟨v5, H5, k5, rfl, e5⟩ := hW (be32 rttl.toNat) H4 (by rw [be32_len]; omega)
  rw [show (be32 rttl.toNat).take 4 = be32 rttl.toNat from rfl, num_be32 (by omega), Int.toNat_of_nonneg x4.1] at k5
  have s5 := s4.ext e5
  have g4 := takeR_at (n := 2) (l := l) (A := pre ++ [0] ++ be16 rt.toNat ++ be16 rc.toNat ++ be32 rttl.toNat) (B := be16 rd.length) (R := rd) (by rw [hl0]; simp) rfl
  obtain ⟨v6, H6, k6, rfl, s6, e6⟩ := hT id a l _ 2 0 H5 s5 (by omega)
  rw [g4] at k6 s6
  simp only [show ((2 : Nat) : Int) = 2 from rfl, show ((4 : Nat) : Int) = 4 from rfl] at k6 s6
  have p5 : (pre ++ [0] ++ be16 rt.toNat ++ be16 rc.toNat ++ be32 rttl.toNat).length + 2 = (pre ++ [0] ++ be16 rt.toNat ++ be16 rc.toNat ++ be32 rttl.toNat ++ be16 rd.length).length := by simp [be16_len, be32_len]
  rw [p5] at s6
  have ut := fun H => hU (be16 rt.toNat) H (by rw [be16_len]; omega)
  have uc := fun H => hU (be16 rc.toNat) H (by rw [be16_len]; omega)
  have ud := fun H => hU (be16 rd.length) H (by rw [be16_len]; omega)
  rw [show (be16 rt.toNat).take 2 = be16 rt.toNat from rfl, num_be16 (by omega), Int.toNat_of_nonneg x2.1] at ut
  rw [show (be16 rc.toNat).take 2 = be16 rc.toNat from rfl, num_be16 (by omega), Int.toNat_of_nonneg x3.1] at uc
  rw [show (be16 rd.length).take 2 = be16 rd.length from rfl, num_be16 (by omega)] at ud
  obtain ⟨⟨d1, d2, d3⟩, d4, d5, d6⟩ := s6.lds
  obtain ⟨l1, l2⟩ := s6.b.len
  have hpl : (pre ++ [0] ++ be16 rt.toNat ++ be16 rc.toNat ++ be32 rttl.toNat ++ be16 rd.length).length = pre.length + 11 := by simp [be16_len, be32_len]
  have K6 : Kp [id] H H6 := (((((e1.trans e2).trans e3).trans e4).trans (.ext e5)).trans e6)
  have hlb := h.hl
  have hw : IntKind.i64.wrap (((pre ++ [0] ++ be16 rt.toNat ++ be16 rc.toNat ++ be32 rttl.toNat ++ be16 rd.length).length : Nat) + (rd.length : Int)) = (l.length : Int) := by
    rw [hpl, w64 (by omega) (by omega)]; omega
  have hz : ¬ (l.length : Int) < (l.length : Int) := by omega
  simp only [Enc.v, eR]
  by_cases hd : rd = []
  · have hd0 : (((rd.length : Nat) : Int) = 0) = True := eq_true (by rw [hd]; rfl)
    have hfin : Dec H6 id a l l.length 0 := by
      have e : (pre ++ [0] ++ be16 rt.toNat ++ be16 rc.toNat ++ be32 rttl.toNat ++ be16 rd.length).length = l.length := by
        rw [hpl]
        have : rd.length = 0 := by rw [hd]; rfl
        omega
      rw [e] at s6; exact s6
    simp -implicitDefEqProofs only [x_q, x_o, x_b, x_k, x_x, x_r, x_it, x_if, x_p, p_nil, p_on, p_off, p_mv, p_pk, p_bn, p_un, p_be, p_nl, p_eqa, p_ci, p_cbs, p_csb, p_ex, p_bd, p_fd, p_ix, p_ixa, p_ss, p_sl, p_sla, p_ln, p_lns, p_lnm, p_al, p_bx, p_lal, p_lbx, p_ld, p_st, p_fa, p_ia, p_iaa, p_bs, p_lbs, p_mk, p_ap, p_cp, p_cl, p_cv, p_mf, p_nc, p_mm, p_mkm, p_lk, p_mu, p_dl, p_rs, p_nx, cfC, lgPut, isOk, rv, rh, Bool.false_eq_true, d_nil, d_on, d_off, d_mv, d_pk, d_bn, d_un, d_be, d_nl, d_eqa, d_ci, d_cbs, d_csb, d_ex, d_bd, d_fd, d_ix, d_ixa, d_ss, d_sl, d_sla, d_ln, d_lns, d_lnm, d_al, d_bx, d_lal, d_lbx, d_ld, d_st, d_fa, d_ia, d_iaa, d_bs, d_lbs, d_mk, d_ap, d_cp, d_cl, d_cv, d_mf, d_nc, d_mm, d_mkm, d_lk, d_mu, d_dl, d_rs, d_nx, okO, vlO, mmO, dsO, putE, args, evT, evs, evO, look, kOps, kSeq, kBlk, keepE, reduceIte, Nat.reduceEqDiff, binC, binV, intC, intV, strC, strV, unC, unV, AV.isI, AV.isB, AV.isS, AV.toI, AV.toK, AV.toS, allOut, o_b, o_i, o_s, o_np, o_pv, o_pe, o_ns, o_sl, o_nm, o_mp, o_nf, o_fn, o_ag, q_b, q_i, q_s, q_np, q_pv, q_pe, q_ns, q_sl, q_nm, q_mp, q_nf, q_fn, q_ag, Bool.and_true, Bool.and_self, Bool.true_and, AV.b.injEq, decide_eq_true_eq, decide_eq_false_iff_not, true_and, and_true, and_self, reduceCtorEq, imp_self, implies_true, forall_const, eq_self, ex_tp, ex_ag, List.getD_cons_zero, List.getD_cons_succ, List.length_cons, List.length_nil, Nat.reduceAdd, Nat.reduceLT, Nat.zero_add, bne_self_eq_false, decide_true, decide_false, eq_self, true_implies, false_implies, forall_const, Bool.true_eq_false, Bool.not_true, Bool.not_false, not_true_eq_false, not_false_eq_true, if_true, if_false, pickV, cond_true, cond_false, boolV, fillEC, fillE, List.replicate, List.set, Mem.newL, Mem.keep, Int.reduceToNat, Nat.reduceSub, List.drop_zero, Int.reduceLE, Int.le_refl, Nat.sub_zero, Mem.newL, Mem.newL, Mem.getL, Mem.hasL, lookL, setL, dropL, keepL, memN, la_faC, la_faV, la_ldC, la_ldX, la_stC, la_stM, partOf, partFits, setEl, setPart, Option.isSome_some, Option.getD_some, List.take_succ_cons, List.take_zero, List.drop_succ_cons, List.drop_zero, List.nil_append, List.cons_append, List.getD_cons_zero, List.getD_cons_succ, List.length_cons, List.length_nil, List.set_cons_zero, List.append_nil, List.drop_nil, List.take_nil, Nat.reduceAdd, Nat.reduceLT, Nat.reduceLeDiff, Nat.zero_add, Nat.add_zero, Nat.lt_add_one, Nat.le_refl, Nat.zero_le, Nat.zero_lt_succ, fillP, fillC, Nat.reduceLeDiff, lgAt, isRd, lgAt, isRd, pv_faC, pv_faV, k1, k2, k3, k4, k5, k6, ut, uc, ud, d1, d2, d3, d4, d5, d6, l1, l2, hw, hz, hd0, endK, rsC, rsV, resV]
    exact ⟨by rw [hd], hfin, K6⟩
  · have hdn : ¬ ((rd.length : Nat) : Int) = 0 := by have := List.length_pos_iff.2 hd; omega
    have g5 := takeR_at (l := l) (A := pre ++ [0] ++ be16 rt.toNat ++ be16 rc.toNat ++ be32 rttl.toNat ++ be16 rd.length) (B := rd) (R := []) (by rw [hl0]; simp) rfl
    obtain ⟨v7, H7, k7, rfl, s7, e7⟩ := hT id a l _ rd.length 0 H6 s6 (by omega)
    rw [g5] at k7 s7
    simp only [show ((2 : Nat) : Int) = 2 from rfl, show ((4 : Nat) : Int) = 4 from rfl] at k7 s7
    have hfin : Dec H7 id a l l.length 0 := by rw [hpl, ← hlen] at s7; exact s7
    have hp := hP rt H6
    rw [x6] at hp
    obtain ⟨v8, H8, k8, rfl, e8⟩ := hC rt rd H7 (hF.kp h.ob (by simp) (K6.trans e7)) hf x2.1 x2.2
    rw [if_neg (by omega)] at k8
    simp -implicitDefEqProofs only [x_q, x_o, x_b, x_k, x_x, x_r, x_it, x_if, x_p, p_nil, p_on, p_off, p_mv, p_pk, p_bn, p_un, p_be, p_nl, p_eqa, p_ci, p_cbs, p_csb, p_ex, p_bd, p_fd, p_ix, p_ixa, p_ss, p_sl, p_sla, p_ln, p_lns, p_lnm, p_al, p_bx, p_lal, p_lbx, p_ld, p_st, p_fa, p_ia, p_iaa, p_bs, p_lbs, p_mk, p_ap, p_cp, p_cl, p_cv, p_mf, p_nc, p_mm, p_mkm, p_lk, p_mu, p_dl, p_rs, p_nx, cfC, lgPut, isOk, rv, rh, Bool.false_eq_true, d_nil, d_on, d_off, d_mv, d_pk, d_bn, d_un, d_be, d_nl, d_eqa, d_ci, d_cbs, d_csb, d_ex, d_bd, d_fd, d_ix, d_ixa, d_ss, d_sl, d_sla, d_ln, d_lns, d_lnm, d_al, d_bx, d_lal, d_lbx, d_ld, d_st, d_fa, d_ia, d_iaa, d_bs, d_lbs, d_mk, d_ap, d_cp, d_cl, d_cv, d_mf, d_nc, d_mm, d_mkm, d_lk, d_mu, d_dl, d_rs, d_nx, okO, vlO, mmO, dsO, putE, args, evT, evs, evO, look, kOps, kSeq, kBlk, keepE, reduceIte, Nat.reduceEqDiff, binC, binV, intC, intV, strC, strV, unC, unV, AV.isI, AV.isB, AV.isS, AV.toI, AV.toK, AV.toS, allOut, o_b, o_i, o_s, o_np, o_pv, o_pe, o_ns, o_sl, o_nm, o_mp, o_nf, o_fn, o_ag, q_b, q_i, q_s, q_np, q_pv, q_pe, q_ns, q_sl, q_nm, q_mp, q_nf, q_fn, q_ag, Bool.and_true, Bool.and_self, Bool.true_and, AV.b.injEq, decide_eq_true_eq, decide_eq_false_iff_not, true_and, and_true, and_self, reduceCtorEq, imp_self, implies_true, forall_const, eq_self, ex_tp, ex_ag, List.getD_cons_zero, List.getD_cons_succ, List.length_cons, List.length_nil, Nat.reduceAdd, Nat.reduceLT, Nat.zero_add, bne_self_eq_false, decide_true, decide_false, eq_self, true_implies, false_implies, forall_const, Bool.true_eq_false, Bool.not_true, Bool.not_false, not_true_eq_false, not_false_eq_true, if_true, if_false, pickV, cond_true, cond_false, boolV, fillEC, fillE, List.replicate, List.set, Mem.newL, Mem.keep, Int.reduceToNat, Nat.reduceSub, List.drop_zero, Int.reduceLE, Int.le_refl, Nat.sub_zero, Mem.newL, Mem.newL, Mem.getL, Mem.hasL, lookL, setL, dropL, keepL, memN, la_faC, la_faV, la_ldC, la_ldX, la_stC, la_stM, partOf, partFits, setEl, setPart, Option.isSome_some, Option.getD_some, List.take_succ_cons, List.take_zero, List.drop_succ_cons, List.drop_zero, List.nil_append, List.cons_append, List.getD_cons_zero, List.getD_cons_succ, List.length_cons, List.length_nil, List.set_cons_zero, List.append_nil, List.drop_nil, List.take_nil, Nat.reduceAdd, Nat.reduceLT, Nat.reduceLeDiff, Nat.zero_add, Nat.add_zero, Nat.lt_add_one, Nat.le_refl, Nat.zero_le, Nat.zero_lt_succ, fillP, fillC, Nat.reduceLeDiff, lgAt, isRd, lgAt, isRd, pv_faC, pv_faV, k1, k2, k3, k4, k5, k6, ut, uc, ud, d1, d2, d3, d4, d5, d6, l1, l2, hw, hz, hdn, hp, k7, k8, endK, rsC, rsV, resV]
    exact ⟨hfin.ext e8, (K6.trans e7).trans (.ext e8)⟩
end
end Go.Vm

/- The reader of messages: a message of one record among the extra ones, read. -/
namespace Go.Vm
set_option linter.unusedVariables false
set_option linter.unusedSimpArgs false
theorem hd_hdr1 : hdOf hdr1 = hd0 := by
  have h0 : b2 hdr1 0 = 0 := rfl
  have h2 : b2 hdr1 2 = 0 := rfl
  simp [hdOf, h0, h2, bitN, hd0]
theorem cnt_hdr1 : cntV hdr1 = .ag [.i .i64 0, .i .i64 0, .i .i64 0, .i .i64 1] := rfl
theorem take_hdr1 (r : Rr) : (hdr1 ++ recB r).take 12 = hdr1 := rfl
def mz : List AV := [.i .i64 0, .b false, .i .i64 0, .b false, .b false, .b false, .b false, .b false, .b false, .b false, .i .i64 0, .ns, .ns, .ns, .ns]
def mcs (c : AV) : List AV := [.i .i64 0, .b false, .i .i64 0, .b false, .b false, .b false, .b false, .b false, .b false, .b false, .i .i64 0, .ns, .ns, .ns, c]
theorem mV_mcs (c : AV) : mV hd0 .ns .ns .ns c = .ag (mcs c) := rfl
def Dec1Post (r : Rr) (H : AH) (v : AV) (H' : AH) : Prop := Ext H H' ∧ ∃ c, v = .tp [mV hd0 .ns .ns .ns c, .i .i64 0] ∧ Mx H' eR c [r] ∧ ∀ i, i ∈ idA c → H.n ≤ i
/-- The state between lists. -/
structure Dst (H0 H : AH) (did mid : Nat) (a : AV) (l : List UInt8) (r : Rr) (d : Bool) (c : AV) : Prop where
  dec : Dec H did a l (if d then l.length else 12) 0
  ms : Obj1 H mid (mcs c)
  row : if d then Mx H eR c [r] ∧ (∀ i, i ∈ idA c → H0.n ≤ i) else c = .ns
  ext : Ext H0 H
  F : FormsOK H
  hd : H0.n ≤ did
  hm : H0.n ≤ mid
  ne : did ≠ mid
theorem mz_st {H : AH} : (∀ (L : List Lv) (g : Nat), stC ⟨L, g, H.new (.arr true 0 15 [.ag mz])⟩ (.ag (mcs .ns)) (.pv H.n 0)) ∧ ∀ (L : List Lv) (g : Nat), stM ⟨L, g, H.new (.arr true 0 15 [.ag mz])⟩ (.ag (mcs .ns)) (.pv H.n 0) = ⟨L, g, (H.new (.arr true 0 15 [.ag mz])).set H.n (.arr true 0 15 [.ag (mcs .ns)])⟩ := by
  refine ⟨fun L g => ?_, fun L g => ?_⟩
  · simp only [stC, new_at]
    exact ⟨trivial, trivial, rfl, Nat.le_refl _⟩
  · simp only [stM, new_at]
    rfl
section
variable {C : Tab}
/-- One record more. -/
theorem Dst.one {H0 H : AH} {did mid : Nat} {a c : AV} {r : Rr} (hR : T_decRecord1 C n_impl_decoder_record) (hr : Plain r) (hf : formless r.t) (h : Dst H0 H did mid a (hdr1 ++ recB r) r false c) :
    ∃ H1, C n_impl_decoder_record [.pv did 0] H = some (eR.v r, H1) ∧ (∀ (L : List Lv) (g : Nat), ldC ⟨L, g, H⟩ none (.pv mid 14) ∧ ldX ⟨L, g, H⟩ none (.pv mid 14) = .ns) ∧ (∀ (L : List Lv) (g : Nat), ldC ⟨L, g, H1⟩ none (.pv mid 14) ∧ ldX ⟨L, g, H1⟩ none (.pv mid 14) = .ns) ∧
      ∀ (L : List Lv) (g : Nat), ∃ o' H2, apC ⟨⟨107, g, 0, [eR.v r]⟩ :: L, g + 1, H1⟩ 5 56 (.ll 107 g 5 1) .ns ∧ apV ⟨⟨107, g, 0, [eR.v r]⟩ :: L, g + 1, H1⟩ (.ll 107 g 5 1) .ns = o' ∧ apM ⟨⟨107, g, 0, [eR.v r]⟩ :: L, g + 1, H1⟩ 5 (.ll 107 g 5 1) .ns = ⟨⟨107, g, 0, [eR.v r]⟩ :: L, g + 1, H2⟩ ∧ o'.outs = true ∧ o'.cells = [o'] ∧
        (∀ (L : List Lv) (g : Nat), stC ⟨L, g, H2⟩ o' (.pv mid 14)) ∧ ∃ H3, (∀ (L : List Lv) (g : Nat), stM ⟨L, g, H2⟩ o' (.pv mid 14) = ⟨L, g, H3⟩) ∧ Dst H0 H3 did mid a (hdr1 ++ recB r) r true o' := by
  obtain ⟨hdec, hms, hrow, hext, hF, hdid, hmid, hne⟩ := h
  rw [if_neg (by simp)] at hdec hrow
  subst hrow
  obtain ⟨v, H1, k1, rfl, s1, e1⟩ := hR did a (hdr1 ++ recB r) hdr1 r H hdec rfl hr hf hF
  have ms1 : Obj1 H1 mid (mcs .ns) := hms.kp e1 (by simp; omega)
  obtain ⟨c1, c2⟩ := hms.ld (off := 14) (by decide)
  obtain ⟨c3, c4⟩ := ms1.ld (off := 14) (by decide)
  refine ⟨H1, k1, fun L g => ⟨c1 L g, c2 L g⟩, fun L g => ⟨c3 L g, c4 L g⟩, fun L g => ?_⟩
  obtain ⟨p1, o', H2, p2, p3, p4, p5, p6, p7, p8, p9⟩ := Mn.ap (H := H1) (z := 5) (a := .ns) (els := []) (by' := 56) .nil (L := ⟨107, g, 0, [eR.v r]⟩ :: L) (g := g + 1) (y := .ll 107 g 5 1) (ys := [eR.v r]) (by simp [srcV, srcC, Mem.getL, Mem.hasL, lookL]) (by simp)
  have e2 : Ext H1 H2 := ⟨p5, fun i hi => p6 i hi (by simp [idA])⟩
  have hid : ∀ i, i ∈ idA o' → H1.n ≤ i := fun i hi => (p7 i hi).resolve_left (by simp [idA])
  have hml := ms1.lt
  have hdl := s1.ob.lt
  have m2 : Mx H2 eR o' [r] := p4
  obtain ⟨s2, H3, s3, s4, s5, s6⟩ := (ms1.ext e2).st (off := 14) (v := o') (by decide) p4.sl.one
  have k3 : Kp [mid] H2 H3 := .st s5 s6
  refine ⟨o', H2, p1, p2, p3, p4.sl.out, p4.sl.one, s2, H3, s3, ?_⟩
  have d3 : Dec H3 did a (hdr1 ++ recB r) (hdr1 ++ recB r).length 0 := by
    have d2 := s1.ext e2
    have h3 : ∀ i, i ∈ idA a → H3.at' i = H2.at' i := fun i hi => s6 i (by
      simp only [List.mem_singleton]
      intro e
      have q1 := Sl.lt hdec.b i hi
      subst e
      have q2 := hdec.b
      have q3 := hms.at'
      obtain ⟨rw, st, xs, q4⟩ : ∃ rw st xs, H.at' i = .arr rw st 1 xs := by
        cases q2
        simp only [idA, List.mem_singleton] at hi
        subst hi
        exact ⟨_, _, _, by assumption⟩
      rw [q3] at q4
      injection q4 with _ _ q4
      exact absurd q4 (by decide))
    exact ⟨d2.ob.fr (Nat.le_of_eq s5.symm) (s6 _ (by simp; omega)), Sl.fr d2.b (Nat.le_of_eq s5.symm) h3, d2.cl.fr h3, d2.ni, d2.hl, d2.hp⟩
  refine ⟨by rw [if_pos rfl]; exact d3, s4, ?_, ?_, ?_, hdid, hmid, hne⟩
  · rw [if_pos rfl]
    have hn := hext.n; have := e1.n
    exact ⟨Mn.fr m2 (Nat.le_of_eq s5.symm) fun i hi => s6 i (by have := hid i hi; simp; omega), fun i hi => by have := hid i hi; omega⟩
  · have x1 : Ext H0 H1 := e1.put hext (fun i hi => by simp only [List.mem_singleton] at hi; omega)
    exact k3.put (x1.trans e2) (fun i hi => by simp only [List.mem_singleton] at hi; omega)
  · have F1 := hF.kp hdec.ob (by simp) e1
    exact (F1.ext e2).kp (ms1.ext e2) (by decide) k3
end
end Go.Vm

/- The reader of messages: a message of one record among the extra ones, read whole. -/
namespace Go.Vm
set_option linter.unusedVariables false
set_option linter.unusedSimpArgs false
def T_Decode1 (C : Tab) (f : Nat) : Prop := ∀ (a : AV) (r : Rr) (H : AH), Byt H a (hdr1 ++ recB r) → Cl H a → (hdr1 ++ recB r).length ≤ 65535 → Plain r → formless r.t → FormsOK H → ∃ v H', C f [a] H = some (v, H') ∧ Dec1Post r H v H'
def cz : List AV := [.i .i64 0, .i .i64 0, .i .i64 0, .i .i64 1]
section
variable {C : Tab}
set_option maxRecDepth 100000 in
theorem r_Decode1 {a : AV} {r : Rr} {H : AH} (hD : T_DecodeHead C n_impl_DecodeHead) (hR : T_decRecord1 C n_impl_decoder_record) (h : Byt H a (hdr1 ++ recB r)) (hc : Cl H a) (hlen : (hdr1 ++ recB r).length ≤ 65535) (hr : Plain r) (hf : formless r.t) (hF : FormsOK H) :
    Runs C c_impl_Decode [a] H (Dec1Post r H) := by
  unfold Runs c_impl_Decode
  have ll : (hdr1 ++ recB r).length = 23 + r.d.length := by simp [recB_len, hdr1]; omega
  obtain ⟨v, H0, k1, rfl, rfl⟩ := hD a _ H h hc (by omega)
  rw [take_hdr1, hd_hdr1, cnt_hdr1] at k1
  simp only [Enc.v, eH, hd0] at k1
  obtain ⟨l1, l2⟩ := h.len
  have oa := h.out
  have oc := h.one
  have hb : ¬ (65535 : Int) < (hdr1 ++ recB r).length := by omega
  have a1 : IntKind.i64.wrap (0 + 0) = 0 := by decide
  have a2 : IntKind.i64.wrap (0 + 1) = 1 := by decide
  obtain ⟨s1, s2⟩ := mz_st (H := H0.new (.arr true 0 3 [.ag [a, .i .i64 12, .i .i64 0]]))
  have hlt := Sl.lt h
  have hd : Dst H0 (((H0.new (.arr true 0 3 [.ag [a, .i .i64 12, .i .i64 0]])).new (.arr true 0 15 [.ag mz])).set (H0.new (.arr true 0 3 [.ag [a, .i .i64 12, .i .i64 0]])).n (.arr true 0 15 [.ag (mcs .ns)])) H0.n (H0.n + 1) a (hdr1 ++ recB r) r false .ns := by
    have e0 : Ext (H0.new (.arr true 0 3 [.ag [a, .i .i64 12, .i .i64 0]])) (((H0.new (.arr true 0 3 [.ag [a, .i .i64 12, .i .i64 0]])).new (.arr true 0 15 [.ag mz])).set (H0.new (.arr true 0 3 [.ag [a, .i .i64 12, .i .i64 0]])).n (.arr true 0 15 [.ag (mcs .ns)])) := (Ext.new _ _).set (Nat.le_refl _)
    have d0 : Dec (H0.new (.arr true 0 3 [.ag [a, .i .i64 12, .i .i64 0]])) H0.n a (hdr1 ++ recB r) 12 0 :=
      ⟨Obj1.new (cs := [a, .i .i64 12, .i .i64 0]), Sl.ext h (.new _ _), hc.fr fun i hi => (Ext.new _ _).at' i (hlt i hi), fun e => by have := hlt _ e; omega, hlen, by omega⟩
    refine ⟨by rw [if_neg (by simp)]; exact d0.ext e0, ⟨by simp, set_at⟩, by rw [if_neg (by simp)], (Ext.new _ _).trans e0, (hF.ext (.new _ _)).ext e0, Nat.le_refl _, by omega, by omega⟩
  simp only [mz, mcs] at s1 s2
  simp only [mz] at hd
  have hnn : (H0.new (.arr true 0 3 [.ag [a, .i .i64 12, .i .i64 0]])).n = H0.n + 1 := rfl
  rw [hnn] at s1 s2 hd
  rw [show mcs .ns = [.i .i64 0, .b false, .i .i64 0, .b false, .b false, .b false, .b false, .b false, .b false, .b false, .i .i64 0, .ns, .ns, .ns, .ns] from rfl] at hd
  generalize hH2 : (((H0.new (.arr true 0 3 [.ag [a, .i .i64 12, .i .i64 0]])).new (.arr true 0 15 [.ag [.i .i64 0, .b false, .i .i64 0, .b false, .b false, .b false, .b false, .b false, .b false, .b false, .i .i64 0, .ns, .ns, .ns, .ns]])).set (H0.n + 1) (.arr true 0 15 [.ag [.i .i64 0, .b false, .i .i64 0, .b false, .b false, .b false, .b false, .b false, .b false, .b false, .i .i64 0, .ns, .ns, .ns, .ns]])) = H2 at s1 s2 hd
  simp -implicitDefEqProofs only [x_q, x_o, x_b, x_k, x_x, x_r, x_it, x_if, x_p, p_nil, p_on, p_off, p_mv, p_pk, p_bn, p_un, p_be, p_nl, p_eqa, p_ci, p_cbs, p_csb, p_ex, p_bd, p_fd, p_ix, p_ixa, p_ss, p_sl, p_sla, p_ln, p_lns, p_lnm, p_al, p_bx, p_lal, p_lbx, p_ld, p_st, p_fa, p_ia, p_iaa, p_bs, p_lbs, p_mk, p_ap, p_cp, p_cl, p_cv, p_mf, p_nc, p_mm, p_mkm, p_lk, p_mu, p_dl, p_rs, p_nx, cfC, lgPut, isOk, rv, rh, Bool.false_eq_true, d_nil, d_on, d_off, d_mv, d_pk, d_bn, d_un, d_be, d_nl, d_eqa, d_ci, d_cbs, d_csb, d_ex, d_bd, d_fd, d_ix, d_ixa, d_ss, d_sl, d_sla, d_ln, d_lns, d_lnm, d_al, d_bx, d_lal, d_lbx, d_ld, d_st, d_fa, d_ia, d_iaa, d_bs, d_lbs, d_mk, d_ap, d_cp, d_cl, d_cv, d_mf, d_nc, d_mm, d_mkm, d_lk, d_mu, d_dl, d_rs, d_nx, okO, vlO, mmO, dsO, putE, args, evT, evs, evO, look, kOps, kSeq, kBlk, keepE, reduceIte, Nat.reduceEqDiff, binC, binV, intC, intV, strC, strV, unC, unV, AV.isI, AV.isB, AV.isS, AV.toI, AV.toK, AV.toS, allOut, o_b, o_i, o_s, o_np, o_pv, o_pe, o_ns, o_sl, o_nm, o_mp, o_nf, o_fn, o_ag, q_b, q_i, q_s, q_np, q_pv, q_pe, q_ns, q_sl, q_nm, q_mp, q_nf, q_fn, q_ag, Bool.and_true, Bool.and_self, Bool.true_and, AV.b.injEq, decide_eq_true_eq, decide_eq_false_iff_not, true_and, and_true, and_self, reduceCtorEq, imp_self, implies_true, forall_const, eq_self, ex_tp, ex_ag, List.getD_cons_zero, List.getD_cons_succ, List.length_cons, List.length_nil, Nat.reduceAdd, Nat.reduceLT, Nat.zero_add, bne_self_eq_false, decide_true, decide_false, eq_self, true_implies, false_implies, forall_const, Bool.true_eq_false, Bool.not_true, Bool.not_false, not_true_eq_false, not_false_eq_true, if_true, if_false, pickV, cond_true, cond_false, boolV, fillEC, fillE, List.replicate, List.set, Mem.newL, Mem.keep, Int.reduceToNat, Nat.reduceSub, List.drop_zero, Int.reduceLE, Int.le_refl, Nat.sub_zero, Mem.newL, Mem.newL, Mem.getL, Mem.hasL, lookL, setL, dropL, keepL, memN, la_faC, la_faV, la_ldC, la_ldX, la_stC, la_stM, partOf, partFits, setEl, setPart, Option.isSome_some, Option.getD_some, List.take_succ_cons, List.take_zero, List.drop_succ_cons, List.drop_zero, List.nil_append, List.cons_append, List.getD_cons_zero, List.getD_cons_succ, List.length_cons, List.length_nil, List.set_cons_zero, List.append_nil, List.drop_nil, List.take_nil, Nat.reduceAdd, Nat.reduceLT, Nat.reduceLeDiff, Nat.zero_add, Nat.add_zero, Nat.lt_add_one, Nat.le_refl, Nat.zero_le, Nat.zero_lt_succ, fillP, fillC, Nat.reduceLeDiff, lgAt, isRd, pv_faC, pv_faV, l1, l2, hb, oa, oc, k1, a1, a2, hnn, s1, s2, Int.reduceLT, Int.reduceToNat, Nat.reduceMul, show ((4 : Nat) : Int) = 4 from rfl]
  refine exec_loop (fun n e M => ∃ (L : List Lv) (g : Nat), look e 0 = a ∧ look e 2 = .la 2 0 0 0 ∧ look e 5 = .la 5 2 0 0 ∧ look e 7 = .pv H0.n 0 ∧ look e 8 = .pv (H0.n + 1) 0 ∧ look e 9 = .i .i64 0 ∧ M = ⟨L, g, H2⟩ ∧ keepL [0, 2, 5, 7, 8, 9] L = [⟨5, 2, 0, [.ag cz]⟩, ⟨2, 0, 0, [.ag mz]⟩]) ?_ (n := 0) ⟨_, _, rfl, rfl, rfl, rfl, rfl, rfl, rfl, rfl⟩
  rintro n e M ⟨L, g, q0, q2, q5, q7, q8, q9, rfl, hL⟩
  simp only [mz, cz] at hL
  simp -implicitDefEqProofs only [x_q, x_o, x_b, x_k, x_x, x_r, x_it, x_if, x_p, p_nil, p_on, p_off, p_mv, p_pk, p_bn, p_un, p_be, p_nl, p_eqa, p_ci, p_cbs, p_csb, p_ex, p_bd, p_fd, p_ix, p_ixa, p_ss, p_sl, p_sla, p_ln, p_lns, p_lnm, p_al, p_bx, p_lal, p_lbx, p_ld, p_st, p_fa, p_ia, p_iaa, p_bs, p_lbs, p_mk, p_ap, p_cp, p_cl, p_cv, p_mf, p_nc, p_mm, p_mkm, p_lk, p_mu, p_dl, p_rs, p_nx, cfC, lgPut, isOk, rv, rh, Bool.false_eq_true, d_nil, d_on, d_off, d_mv, d_pk, d_bn, d_un, d_be, d_nl, d_eqa, d_ci, d_cbs, d_csb, d_ex, d_bd, d_fd, d_ix, d_ixa, d_ss, d_sl, d_sla, d_ln, d_lns, d_lnm, d_al, d_bx, d_lal, d_lbx, d_ld, d_st, d_fa, d_ia, d_iaa, d_bs, d_lbs, d_mk, d_ap, d_cp, d_cl, d_cv, d_mf, d_nc, d_mm, d_mkm, d_lk, d_mu, d_dl, d_rs, d_nx, okO, vlO, mmO, dsO, putE, args, evT, evs, evO, look, kOps, kSeq, kBlk, keepE, reduceIte, Nat.reduceEqDiff, binC, binV, intC, intV, strC, strV, unC, unV, AV.isI, AV.isB, AV.isS, AV.toI, AV.toK, AV.toS, allOut, o_b, o_i, o_s, o_np, o_pv, o_pe, o_ns, o_sl, o_nm, o_mp, o_nf, o_fn, o_ag, q_b, q_i, q_s, q_np, q_pv, q_pe, q_ns, q_sl, q_nm, q_mp, q_nf, q_fn, q_ag, Bool.and_true, Bool.and_self, Bool.true_and, AV.b.injEq, decide_eq_true_eq, decide_eq_false_iff_not, true_and, and_true, and_self, reduceCtorEq, imp_self, implies_true, forall_const, eq_self, ex_tp, ex_ag, List.getD_cons_zero, List.getD_cons_succ, List.length_cons, List.length_nil, Nat.reduceAdd, Nat.reduceLT, Nat.zero_add, bne_self_eq_false, decide_true, decide_false, eq_self, true_implies, false_implies, forall_const, Bool.true_eq_false, Bool.not_true, Bool.not_false, not_true_eq_false, not_false_eq_true, if_true, if_false, pickV, cond_true, cond_false, boolV, fillEC, fillE, List.replicate, List.set, Mem.newL, Mem.keep, Int.reduceToNat, Nat.reduceSub, List.drop_zero, Int.reduceLE, Int.le_refl, Nat.sub_zero, Mem.newL, Mem.newL, Mem.getL, Mem.hasL, lookL, setL, dropL, keepL, memN, la_faC, la_faV, la_ldC, la_ldX, la_stC, la_stM, partOf, partFits, setEl, setPart, Option.isSome_some, Option.getD_some, List.take_succ_cons, List.take_zero, List.drop_succ_cons, List.drop_zero, List.nil_append, List.cons_append, List.getD_cons_zero, List.getD_cons_succ, List.length_cons, List.length_nil, List.set_cons_zero, List.append_nil, List.drop_nil, List.take_nil, Nat.reduceAdd, Nat.reduceLT, Nat.reduceLeDiff, Nat.zero_add, Nat.add_zero, Nat.lt_add_one, Nat.le_refl, Nat.zero_le, Nat.zero_lt_succ, fillP, fillC, Nat.reduceLeDiff, lgAt, isRd, pv_faC, pv_faV, q0, q2, q5, q7, q8, q9, hL, Int.reduceLT, Int.reduceToNat, Nat.reduceMul, show ((4 : Nat) : Int) = 4 from rfl, fillEC, fillE, List.replicate, List.set, lenV, lenC]
  refine exec_loop (fun n e M => ∃ (j : Nat) (c : AV) (H' : AH) (L : List Lv) (g g' : Nat), j ≤ 3 ∧ n = 3 - j ∧ look e 0 = a ∧ look e 2 = .la 2 0 0 0 ∧ look e 5 = .la 5 2 0 0 ∧ look e 7 = .pv H0.n 0 ∧ look e 8 = .pv (H0.n + 1) 0 ∧ look e 79 = .ll 79 g' 1 3 ∧ look e 80 = .i .i64 3 ∧ look e 81 = .i .i64 j ∧ M = ⟨L, g, H'⟩ ∧ keepL [0, 2, 5, 7, 8, 79, 80, 81] L = [⟨79, g', 0, [.pv (H0.n + 1) 12, .pv (H0.n + 1) 13, .pv (H0.n + 1) 14]⟩, ⟨5, 2, 0, [.ag cz]⟩, ⟨2, 0, 0, [.ag mz]⟩] ∧ Dst H0 H' H0.n (H0.n + 1) a (hdr1 ++ recB r) r (decide (j = 3)) c) ?_ (n := 3)
    ⟨0, _, _, _, _, g, by omega, by omega, rfl, rfl, rfl, rfl, rfl, rfl, rfl, rfl, rfl, rfl, hd⟩
  clear q0 q2 q5 q7 q8 q9 hL hd s1 s2 hH2
  rintro n e M ⟨j, c, H', L, g, g', hj, rfl, q0, q2, q5, q7, q8, q79, q80, q81, rfl, hL, hs⟩
  simp only [mz, cz] at hL
  have a11 : IntKind.i64.wrap (0 + 1) = 1 := by decide
  have a12 : IntKind.i64.wrap (1 + 1) = 2 := by decide
  have a13 : IntKind.i64.wrap (2 + 1) = 3 := by decide
  have c0 : ((0 : Nat) : Int) = 0 := rfl
  have c1 : ((1 : Nat) : Int) = 1 := rfl
  have c2 : ((2 : Nat) : Int) = 2 := rfl
  have c3 : ((3 : Nat) : Int) = 3 := rfl
  have c4 : ((4 : Nat) : Int) = 4 := rfl
  have i0 : iaC 0 (.ll 79 g' 1 3) := ⟨by decide, by decide⟩
  have i1 : iaC 1 (.ll 79 g' 1 3) := ⟨by decide, by decide⟩
  have i2 : iaC 2 (.ll 79 g' 1 3) := ⟨by decide, by decide⟩
  obtain rfl | rfl | rfl | rfl : j = 0 ∨ j = 1 ∨ j = 2 ∨ j = 3 := by omega
  · simp -implicitDefEqProofs only [x_q, x_o, x_b, x_k, x_x, x_r, x_it, x_if, x_p, p_nil, p_on, p_off, p_mv, p_pk, p_bn, p_un, p_be, p_nl, p_eqa, p_ci, p_cbs, p_csb, p_ex, p_bd, p_fd, p_ix, p_ixa, p_ss, p_sl, p_sla, p_ln, p_lns, p_lnm, p_al, p_bx, p_lal, p_lbx, p_ld, p_st, p_fa, p_ia, p_iaa, p_bs, p_lbs, p_mk, p_ap, p_cp, p_cl, p_cv, p_mf, p_nc, p_mm, p_mkm, p_lk, p_mu, p_dl, p_rs, p_nx, cfC, lgPut, isOk, rv, rh, Bool.false_eq_true, d_nil, d_on, d_off, d_mv, d_pk, d_bn, d_un, d_be, d_nl, d_eqa, d_ci, d_cbs, d_csb, d_ex, d_bd, d_fd, d_ix, d_ixa, d_ss, d_sl, d_sla, d_ln, d_lns, d_lnm, d_al, d_bx, d_lal, d_lbx, d_ld, d_st, d_fa, d_ia, d_iaa, d_bs, d_lbs, d_mk, d_ap, d_cp, d_cl, d_cv, d_mf, d_nc, d_mm, d_mkm, d_lk, d_mu, d_dl, d_rs, d_nx, okO, vlO, mmO, dsO, putE, args, evT, evs, evO, look, kOps, kSeq, kBlk, keepE, reduceIte, Nat.reduceEqDiff, binC, binV, intC, intV, strC, strV, unC, unV, AV.isI, AV.isB, AV.isS, AV.toI, AV.toK, AV.toS, allOut, o_b, o_i, o_s, o_np, o_pv, o_pe, o_ns, o_sl, o_nm, o_mp, o_nf, o_fn, o_ag, q_b, q_i, q_s, q_np, q_pv, q_pe, q_ns, q_sl, q_nm, q_mp, q_nf, q_fn, q_ag, Bool.and_true, Bool.and_self, Bool.true_and, AV.b.injEq, decide_eq_true_eq, decide_eq_false_iff_not, true_and, and_true, and_self, reduceCtorEq, imp_self, implies_true, forall_const, eq_self, ex_tp, ex_ag, List.getD_cons_zero, List.getD_cons_succ, List.length_cons, List.length_nil, Nat.reduceAdd, Nat.reduceLT, Nat.zero_add, bne_self_eq_false, decide_true, decide_false, eq_self, true_implies, false_implies, forall_const, Bool.true_eq_false, Bool.not_true, Bool.not_false, not_true_eq_false, not_false_eq_true, if_true, if_false, pickV, cond_true, cond_false, boolV, fillEC, fillE, List.replicate, List.set, Mem.newL, Mem.keep, Int.reduceToNat, Nat.reduceSub, List.drop_zero, Int.reduceLE, Int.le_refl, Nat.sub_zero, Mem.newL, Mem.newL, Mem.getL, Mem.hasL, lookL, setL, dropL, keepL, memN, la_faC, la_faV, la_ldC, la_ldX, la_stC, la_stM, partOf, partFits, setEl, setPart, Option.isSome_some, Option.getD_some, List.take_succ_cons, List.take_zero, List.drop_succ_cons, List.drop_zero, List.nil_append, List.cons_append, List.getD_cons_zero, List.getD_cons_succ, List.length_cons, List.length_nil, List.set_cons_zero, List.append_nil, List.drop_nil, List.take_nil, Nat.reduceAdd, Nat.reduceLT, Nat.reduceLeDiff, Nat.zero_add, Nat.add_zero, Nat.lt_add_one, Nat.le_refl, Nat.zero_le, Nat.zero_lt_succ, fillP, fillC, Nat.reduceLeDiff, lgAt, isRd, pv_faC, pv_faV, q0, q2, q5, q7, q8, q79, q80, q81, hL, c0, c1, c2, c3, slZ, i0, i1, i2, iaV, Int.reduceLT, Int.reduceToNat, Nat.reduceMul]
    refine exec_loop (fun n e M => ∃ (L : List Lv) (g : Nat), look e 0 = a ∧ look e 2 = .la 2 0 0 0 ∧ look e 5 = .la 5 2 0 0 ∧ look e 7 = .pv H0.n 0 ∧ look e 8 = .pv (H0.n + 1) 0 ∧ look e 11 = .i .i64 0 ∧ look e 13 = .i .i64 0 ∧ look e 79 = .ll 79 g' 1 3 ∧ look e 80 = .i .i64 3 ∧ look e 81 = .i .i64 0 ∧ M = ⟨L, g, H'⟩ ∧ keepL [0, 2, 5, 7, 8, 11, 12, 13, 79, 80, 81] L = [⟨79, g', 0, [.pv (H0.n + 1) 12, .pv (H0.n + 1) 13, .pv (H0.n + 1) 14]⟩, ⟨5, 2, 0, [.ag cz]⟩, ⟨2, 0, 0, [.ag mz]⟩]) ?_ (n := 0) ⟨_, _, rfl, rfl, rfl, rfl, rfl, rfl, rfl, rfl, rfl, rfl, rfl, rfl⟩
    clear q0 q2 q5 q7 q8 q79 q80 q81 hL
    rintro n e M ⟨L, g, q0, q2, q5, q7, q8, q11, q13, q79, q80, q81, rfl, hL⟩
    simp only [mz, cz] at hL
    simp -implicitDefEqProofs only [x_q, x_o, x_b, x_k, x_x, x_r, x_it, x_if, x_p, p_nil, p_on, p_off, p_mv, p_pk, p_bn, p_un, p_be, p_nl, p_eqa, p_ci, p_cbs, p_csb, p_ex, p_bd, p_fd, p_ix, p_ixa, p_ss, p_sl, p_sla, p_ln, p_lns, p_lnm, p_al, p_bx, p_lal, p_lbx, p_ld, p_st, p_fa, p_ia, p_iaa, p_bs, p_lbs, p_mk, p_ap, p_cp, p_cl, p_cv, p_mf, p_nc, p_mm, p_mkm, p_lk, p_mu, p_dl, p_rs, p_nx, cfC, lgPut, isOk, rv, rh, Bool.false_eq_true, d_nil, d_on, d_off, d_mv, d_pk, d_bn, d_un, d_be, d_nl, d_eqa, d_ci, d_cbs, d_csb, d_ex, d_bd, d_fd, d_ix, d_ixa, d_ss, d_sl, d_sla, d_ln, d_lns, d_lnm, d_al, d_bx, d_lal, d_lbx, d_ld, d_st, d_fa, d_ia, d_iaa, d_bs, d_lbs, d_mk, d_ap, d_cp, d_cl, d_cv, d_mf, d_nc, d_mm, d_mkm, d_lk, d_mu, d_dl, d_rs, d_nx, okO, vlO, mmO, dsO, putE, args, evT, evs, evO, look, kOps, kSeq, kBlk, keepE, reduceIte, Nat.reduceEqDiff, binC, binV, intC, intV, strC, strV, unC, unV, AV.isI, AV.isB, AV.isS, AV.toI, AV.toK, AV.toS, allOut, o_b, o_i, o_s, o_np, o_pv, o_pe, o_ns, o_sl, o_nm, o_mp, o_nf, o_fn, o_ag, q_b, q_i, q_s, q_np, q_pv, q_pe, q_ns, q_sl, q_nm, q_mp, q_nf, q_fn, q_ag, Bool.and_true, Bool.and_self, Bool.true_and, AV.b.injEq, decide_eq_true_eq, decide_eq_false_iff_not, true_and, and_true, and_self, reduceCtorEq, imp_self, implies_true, forall_const, eq_self, ex_tp, ex_ag, List.getD_cons_zero, List.getD_cons_succ, List.length_cons, List.length_nil, Nat.reduceAdd, Nat.reduceLT, Nat.zero_add, bne_self_eq_false, decide_true, decide_false, eq_self, true_implies, false_implies, forall_const, Bool.true_eq_false, Bool.not_true, Bool.not_false, not_true_eq_false, not_false_eq_true, if_true, if_false, pickV, cond_true, cond_false, boolV, fillEC, fillE, List.replicate, List.set, Mem.newL, Mem.keep, Int.reduceToNat, Nat.reduceSub, List.drop_zero, Int.reduceLE, Int.le_refl, Nat.sub_zero, Mem.newL, Mem.newL, Mem.getL, Mem.hasL, lookL, setL, dropL, keepL, memN, la_faC, la_faV, la_ldC, la_ldX, la_stC, la_stM, partOf, partFits, setEl, setPart, Option.isSome_some, Option.getD_some, List.take_succ_cons, List.take_zero, List.drop_succ_cons, List.drop_zero, List.nil_append, List.cons_append, List.getD_cons_zero, List.getD_cons_succ, List.length_cons, List.length_nil, List.set_cons_zero, List.append_nil, List.drop_nil, List.take_nil, Nat.reduceAdd, Nat.reduceLT, Nat.reduceLeDiff, Nat.zero_add, Nat.add_zero, Nat.lt_add_one, Nat.le_refl, Nat.zero_le, Nat.zero_lt_succ, fillP, fillC, Nat.reduceLeDiff, lgAt, isRd, pv_faC, pv_faV, q0, q2, q5, q7, q8, q11, q13, q79, q80, q81, hL, a11, a12, a13, c4, Int.reduceLT, Int.reduceToNat, Nat.reduceMul]
    exact ⟨2 - 0, by omega, 0 + 1, c, H', _, _, g', by omega, by omega, rfl, rfl, rfl, rfl, hs⟩
  · simp -implicitDefEqProofs only [x_q, x_o, x_b, x_k, x_x, x_r, x_it, x_if, x_p, p_nil, p_on, p_off, p_mv, p_pk, p_bn, p_un, p_be, p_nl, p_eqa, p_ci, p_cbs, p_csb, p_ex, p_bd, p_fd, p_ix, p_ixa, p_ss, p_sl, p_sla, p_ln, p_lns, p_lnm, p_al, p_bx, p_lal, p_lbx, p_ld, p_st, p_fa, p_ia, p_iaa, p_bs, p_lbs, p_mk, p_ap, p_cp, p_cl, p_cv, p_mf, p_nc, p_mm, p_mkm, p_lk, p_mu, p_dl, p_rs, p_nx, cfC, lgPut, isOk, rv, rh, Bool.false_eq_true, d_nil, d_on, d_off, d_mv, d_pk, d_bn, d_un, d_be, d_nl, d_eqa, d_ci, d_cbs, d_csb, d_ex, d_bd, d_fd, d_ix, d_ixa, d_ss, d_sl, d_sla, d_ln, d_lns, d_lnm, d_al, d_bx, d_lal, d_lbx, d_ld, d_st, d_fa, d_ia, d_iaa, d_bs, d_lbs, d_mk, d_ap, d_cp, d_cl, d_cv, d_mf, d_nc, d_mm, d_mkm, d_lk, d_mu, d_dl, d_rs, d_nx, okO, vlO, mmO, dsO, putE, args, evT, evs, evO, look, kOps, kSeq, kBlk, keepE, reduceIte, Nat.reduceEqDiff, binC, binV, intC, intV, strC, strV, unC, unV, AV.isI, AV.isB, AV.isS, AV.toI, AV.toK, AV.toS, allOut, o_b, o_i, o_s, o_np, o_pv, o_pe, o_ns, o_sl, o_nm, o_mp, o_nf, o_fn, o_ag, q_b, q_i, q_s, q_np, q_pv, q_pe, q_ns, q_sl, q_nm, q_mp, q_nf, q_fn, q_ag, Bool.and_true, Bool.and_self, Bool.true_and, AV.b.injEq, decide_eq_true_eq, decide_eq_false_iff_not, true_and, and_true, and_self, reduceCtorEq, imp_self, implies_true, forall_const, eq_self, ex_tp, ex_ag, List.getD_cons_zero, List.getD_cons_succ, List.length_cons, List.length_nil, Nat.reduceAdd, Nat.reduceLT, Nat.zero_add, bne_self_eq_false, decide_true, decide_false, eq_self, true_implies, false_implies, forall_const, Bool.true_eq_false, Bool.not_true, Bool.not_false, not_true_eq_false, not_false_eq_true, if_true, if_false, pickV, cond_true, cond_false, boolV, fillEC, fillE, List.replicate, List.set, Mem.newL, Mem.keep, Int.reduceToNat, Nat.reduceSub, List.drop_zero, Int.reduceLE, Int.le_refl, Nat.sub_zero, Mem.newL, Mem.newL, Mem.getL, Mem.hasL, lookL, setL, dropL, keepL, memN, la_faC, la_faV, la_ldC, la_ldX, la_stC, la_stM, partOf, partFits, setEl, setPart, Option.isSome_some, Option.getD_some, List.take_succ_cons, List.take_zero, List.drop_succ_cons, List.drop_zero, List.nil_append, List.cons_append, List.getD_cons_zero, List.getD_cons_succ, List.length_cons, List.length_nil, List.set_cons_zero, List.append_nil, List.drop_nil, List.take_nil, Nat.reduceAdd, Nat.reduceLT, Nat.reduceLeDiff, Nat.zero_add, Nat.add_zero, Nat.lt_add_one, Nat.le_refl, Nat.zero_le, Nat.zero_lt_succ, fillP, fillC, Nat.reduceLeDiff, lgAt, isRd, pv_faC, pv_faV, q0, q2, q5, q7, q8, q79, q80, q81, hL, c0, c1, c2, c3, slZ, i0, i1, i2, iaV, Int.reduceLT, Int.reduceToNat, Nat.reduceMul]
    refine exec_loop (fun n e M => ∃ (L : List Lv) (g : Nat), look e 0 = a ∧ look e 2 = .la 2 0 0 0 ∧ look e 5 = .la 5 2 0 0 ∧ look e 7 = .pv H0.n 0 ∧ look e 8 = .pv (H0.n + 1) 0 ∧ look e 11 = .i .i64 1 ∧ look e 13 = .i .i64 0 ∧ look e 79 = .ll 79 g' 1 3 ∧ look e 80 = .i .i64 3 ∧ look e 81 = .i .i64 1 ∧ M = ⟨L, g, H'⟩ ∧ keepL [0, 2, 5, 7, 8, 11, 12, 13, 79, 80, 81] L = [⟨79, g', 0, [.pv (H0.n + 1) 12, .pv (H0.n + 1) 13, .pv (H0.n + 1) 14]⟩, ⟨5, 2, 0, [.ag cz]⟩, ⟨2, 0, 0, [.ag mz]⟩]) ?_ (n := 0) ⟨_, _, rfl, rfl, rfl, rfl, rfl, rfl, rfl, rfl, rfl, rfl, rfl, rfl⟩
    clear q0 q2 q5 q7 q8 q79 q80 q81 hL
    rintro n e M ⟨L, g, q0, q2, q5, q7, q8, q11, q13, q79, q80, q81, rfl, hL⟩
    simp only [mz, cz] at hL
    simp -implicitDefEqProofs only [x_q, x_o, x_b, x_k, x_x, x_r, x_it, x_if, x_p, p_nil, p_on, p_off, p_mv, p_pk, p_bn, p_un, p_be, p_nl, p_eqa, p_ci, p_cbs, p_csb, p_ex, p_bd, p_fd, p_ix, p_ixa, p_ss, p_sl, p_sla, p_ln, p_lns, p_lnm, p_al, p_bx, p_lal, p_lbx, p_ld, p_st, p_fa, p_ia, p_iaa, p_bs, p_lbs, p_mk, p_ap, p_cp, p_cl, p_cv, p_mf, p_nc, p_mm, p_mkm, p_lk, p_mu, p_dl, p_rs, p_nx, cfC, lgPut, isOk, rv, rh, Bool.false_eq_true, d_nil, d_on, d_off, d_mv, d_pk, d_bn, d_un, d_be, d_nl, d_eqa, d_ci, d_cbs, d_csb, d_ex, d_bd, d_fd, d_ix, d_ixa, d_ss, d_sl, d_sla, d_ln, d_lns, d_lnm, d_al, d_bx, d_lal, d_lbx, d_ld, d_st, d_fa, d_ia, d_iaa, d_bs, d_lbs, d_mk, d_ap, d_cp, d_cl, d_cv, d_mf, d_nc, d_mm, d_mkm, d_lk, d_mu, d_dl, d_rs, d_nx, okO, vlO, mmO, dsO, putE, args, evT, evs, evO, look, kOps, kSeq, kBlk, keepE, reduceIte, Nat.reduceEqDiff, binC, binV, intC, intV, strC, strV, unC, unV, AV.isI, AV.isB, AV.isS, AV.toI, AV.toK, AV.toS, allOut, o_b, o_i, o_s, o_np, o_pv, o_pe, o_ns, o_sl, o_nm, o_mp, o_nf, o_fn, o_ag, q_b, q_i, q_s, q_np, q_pv, q_pe, q_ns, q_sl, q_nm, q_mp, q_nf, q_fn, q_ag, Bool.and_true, Bool.and_self, Bool.true_and, AV.b.injEq, decide_eq_true_eq, decide_eq_false_iff_not, true_and, and_true, and_self, reduceCtorEq, imp_self, implies_true, forall_const, eq_self, ex_tp, ex_ag, List.getD_cons_zero, List.getD_cons_succ, List.length_cons, List.length_nil, Nat.reduceAdd, Nat.reduceLT, Nat.zero_add, bne_self_eq_false, decide_true, decide_false, eq_self, true_implies, false_implies, forall_const, Bool.true_eq_false, Bool.not_true, Bool.not_false, not_true_eq_false, not_false_eq_true, if_true, if_false, pickV, cond_true, cond_false, boolV, fillEC, fillE, List.replicate, List.set, Mem.newL, Mem.keep, Int.reduceToNat, Nat.reduceSub, List.drop_zero, Int.reduceLE, Int.le_refl, Nat.sub_zero, Mem.newL, Mem.newL, Mem.getL, Mem.hasL, lookL, setL, dropL, keepL, memN, la_faC, la_faV, la_ldC, la_ldX, la_stC, la_stM, partOf, partFits, setEl, setPart, Option.isSome_some, Option.getD_some, List.take_succ_cons, List.take_zero, List.drop_succ_cons, List.drop_zero, List.nil_append, List.cons_append, List.getD_cons_zero, List.getD_cons_succ, List.length_cons, List.length_nil, List.set_cons_zero, List.append_nil, List.drop_nil, List.take_nil, Nat.reduceAdd, Nat.reduceLT, Nat.reduceLeDiff, Nat.zero_add, Nat.add_zero, Nat.lt_add_one, Nat.le_refl, Nat.zero_le, Nat.zero_lt_succ, fillP, fillC, Nat.reduceLeDiff, lgAt, isRd, pv_faC, pv_faV, q0, q2, q5, q7, q8, q11, q13, q79, q80, q81, hL, a11, a12, a13, c4, Int.reduceLT, Int.reduceToNat, Nat.reduceMul]
    exact ⟨2 - 1, by omega, 1 + 1, c, H', _, _, g', by omega, by omega, rfl, rfl, rfl, rfl, hs⟩
  · rw [show decide (2 = 3) = false from rfl] at hs
    simp -implicitDefEqProofs only [x_q, x_o, x_b, x_k, x_x, x_r, x_it, x_if, x_p, p_nil, p_on, p_off, p_mv, p_pk, p_bn, p_un, p_be, p_nl, p_eqa, p_ci, p_cbs, p_csb, p_ex, p_bd, p_fd, p_ix, p_ixa, p_ss, p_sl, p_sla, p_ln, p_lns, p_lnm, p_al, p_bx, p_lal, p_lbx, p_ld, p_st, p_fa, p_ia, p_iaa, p_bs, p_lbs, p_mk, p_ap, p_cp, p_cl, p_cv, p_mf, p_nc, p_mm, p_mkm, p_lk, p_mu, p_dl, p_rs, p_nx, cfC, lgPut, isOk, rv, rh, Bool.false_eq_true, d_nil, d_on, d_off, d_mv, d_pk, d_bn, d_un, d_be, d_nl, d_eqa, d_ci, d_cbs, d_csb, d_ex, d_bd, d_fd, d_ix, d_ixa, d_ss, d_sl, d_sla, d_ln, d_lns, d_lnm, d_al, d_bx, d_lal, d_lbx, d_ld, d_st, d_fa, d_ia, d_iaa, d_bs, d_lbs, d_mk, d_ap, d_cp, d_cl, d_cv, d_mf, d_nc, d_mm, d_mkm, d_lk, d_mu, d_dl, d_rs, d_nx, okO, vlO, mmO, dsO, putE, args, evT, evs, evO, look, kOps, kSeq, kBlk, keepE, reduceIte, Nat.reduceEqDiff, binC, binV, intC, intV, strC, strV, unC, unV, AV.isI, AV.isB, AV.isS, AV.toI, AV.toK, AV.toS, allOut, o_b, o_i, o_s, o_np, o_pv, o_pe, o_ns, o_sl, o_nm, o_mp, o_nf, o_fn, o_ag, q_b, q_i, q_s, q_np, q_pv, q_pe, q_ns, q_sl, q_nm, q_mp, q_nf, q_fn, q_ag, Bool.and_true, Bool.and_self, Bool.true_and, AV.b.injEq, decide_eq_true_eq, decide_eq_false_iff_not, true_and, and_true, and_self, reduceCtorEq, imp_self, implies_true, forall_const, eq_self, ex_tp, ex_ag, List.getD_cons_zero, List.getD_cons_succ, List.length_cons, List.length_nil, Nat.reduceAdd, Nat.reduceLT, Nat.zero_add, bne_self_eq_false, decide_true, decide_false, eq_self, true_implies, false_implies, forall_const, Bool.true_eq_false, Bool.not_true, Bool.not_false, not_true_eq_false, not_false_eq_true, if_true, if_false, pickV, cond_true, cond_false, boolV, fillEC, fillE, List.replicate, List.set, Mem.newL, Mem.keep, Int.reduceToNat, Nat.reduceSub, List.drop_zero, Int.reduceLE, Int.le_refl, Nat.sub_zero, Mem.newL, Mem.newL, Mem.getL, Mem.hasL, lookL, setL, dropL, keepL, memN, la_faC, la_faV, la_ldC, la_ldX, la_stC, la_stM, partOf, partFits, setEl, setPart, Option.isSome_some, Option.getD_some, List.take_succ_cons, List.take_zero, List.drop_succ_cons, List.drop_zero, List.nil_append, List.cons_append, List.getD_cons_zero, List.getD_cons_succ, List.length_cons, List.length_nil, List.set_cons_zero, List.append_nil, List.drop_nil, List.take_nil, Nat.reduceAdd, Nat.reduceLT, Nat.reduceLeDiff, Nat.zero_add, Nat.add_zero, Nat.lt_add_one, Nat.le_refl, Nat.zero_le, Nat.zero_lt_succ, fillP, fillC, Nat.reduceLeDiff, lgAt, isRd, pv_faC, pv_faV, q0, q2, q5, q7, q8, q79, q80, q81, hL, c0, c1, c2, c3, slZ, i0, i1, i2, iaV, Int.reduceLT, Int.reduceToNat, Nat.reduceMul]
    refine exec_loop (fun n e M => ∃ (i : Nat) (c : AV) (H' : AH) (L : List Lv) (g : Nat), i ≤ 1 ∧ n = 1 - i ∧ look e 0 = a ∧ look e 2 = .la 2 0 0 0 ∧ look e 5 = .la 5 2 0 0 ∧ look e 7 = .pv H0.n 0 ∧ look e 8 = .pv (H0.n + 1) 0 ∧ look e 11 = .i .i64 2 ∧ look e 12 = .pv (H0.n + 1) 14 ∧ look e 13 = .i .i64 i ∧ look e 79 = .ll 79 g' 1 3 ∧ look e 80 = .i .i64 3 ∧ look e 81 = .i .i64 2 ∧ M = ⟨L, g, H'⟩ ∧ keepL [0, 2, 5, 7, 8, 11, 12, 13, 79, 80, 81] L = [⟨79, g', 0, [.pv (H0.n + 1) 12, .pv (H0.n + 1) 13, .pv (H0.n + 1) 14]⟩, ⟨5, 2, 0, [.ag cz]⟩, ⟨2, 0, 0, [.ag mz]⟩] ∧ Dst H0 H' H0.n (H0.n + 1) a (hdr1 ++ recB r) r (decide (i = 1)) c) ?_ (n := 1) ⟨0, c, H', _, _, by omega, by omega, rfl, rfl, rfl, rfl, rfl, rfl, rfl, rfl, rfl, rfl, rfl, rfl, rfl, hs⟩
    clear q0 q2 q5 q7 q8 q79 q80 q81 hL hs
    clear H' c
    rintro n e M ⟨i, c, H', L, g, hi, rfl, q0, q2, q5, q7, q8, q11, q12, q13, q79, q80, q81, rfl, hL, hs⟩
    simp only [mz, cz] at hL
    have hdec := hs.dec
    obtain ⟨⟨d1, d2, d3⟩, d4, d5, d6⟩ := hdec.lds
    obtain rfl | rfl : i = 0 ∨ i = 1 := by omega
    · obtain ⟨H1, k1, x1, x2, x3⟩ := hs.one hR hr hf
      have x1a := fun L g => (x1 L g).1
      have x1b := fun L g => (x1 L g).2
      have x2a := fun L g => (x2 L g).1
      have x2b := fun L g => (x2 L g).2
      have z4 : (eR.v r).cells.length = 5 := rfl
      have z5 : (eR.v r).outs = true := rfl
      simp -implicitDefEqProofs only [x_q, x_o, x_b, x_k, x_x, x_r, x_it, x_if, x_p, p_nil, p_on, p_off, p_mv, p_pk, p_bn, p_un, p_be, p_nl, p_eqa, p_ci, p_cbs, p_csb, p_ex, p_bd, p_fd, p_ix, p_ixa, p_ss, p_sl, p_sla, p_ln, p_lns, p_lnm, p_al, p_bx, p_lal, p_lbx, p_ld, p_st, p_fa, p_ia, p_iaa, p_bs, p_lbs, p_mk, p_ap, p_cp, p_cl, p_cv, p_mf, p_nc, p_mm, p_mkm, p_lk, p_mu, p_dl, p_rs, p_nx, cfC, lgPut, isOk, rv, rh, Bool.false_eq_true, d_nil, d_on, d_off, d_mv, d_pk, d_bn, d_un, d_be, d_nl, d_eqa, d_ci, d_cbs, d_csb, d_ex, d_bd, d_fd, d_ix, d_ixa, d_ss, d_sl, d_sla, d_ln, d_lns, d_lnm, d_al, d_bx, d_lal, d_lbx, d_ld, d_st, d_fa, d_ia, d_iaa, d_bs, d_lbs, d_mk, d_ap, d_cp, d_cl, d_cv, d_mf, d_nc, d_mm, d_mkm, d_lk, d_mu, d_dl, d_rs, d_nx, okO, vlO, mmO, dsO, putE, args, evT, evs, evO, look, kOps, kSeq, kBlk, keepE, reduceIte, Nat.reduceEqDiff, binC, binV, intC, intV, strC, strV, unC, unV, AV.isI, AV.isB, AV.isS, AV.toI, AV.toK, AV.toS, allOut, o_b, o_i, o_s, o_np, o_pv, o_pe, o_ns, o_sl, o_nm, o_mp, o_nf, o_fn, o_ag, q_b, q_i, q_s, q_np, q_pv, q_pe, q_ns, q_sl, q_nm, q_mp, q_nf, q_fn, q_ag, Bool.and_true, Bool.and_self, Bool.true_and, AV.b.injEq, decide_eq_true_eq, decide_eq_false_iff_not, true_and, and_true, and_self, reduceCtorEq, imp_self, implies_true, forall_const, eq_self, ex_tp, ex_ag, List.getD_cons_zero, List.getD_cons_succ, List.length_cons, List.length_nil, Nat.reduceAdd, Nat.reduceLT, Nat.zero_add, bne_self_eq_false, decide_true, decide_false, eq_self, true_implies, false_implies, forall_const, Bool.true_eq_false, Bool.not_true, Bool.not_false, not_true_eq_false, not_false_eq_true, if_true, if_false, pickV, cond_true, cond_false, boolV, fillEC, fillE, List.replicate, List.set, Mem.newL, Mem.keep, Int.reduceToNat, Nat.reduceSub, List.drop_zero, Int.reduceLE, Int.le_refl, Nat.sub_zero, Mem.newL, Mem.newL, Mem.getL, Mem.hasL, lookL, setL, dropL, keepL, memN, la_faC, la_faV, la_ldC, la_ldX, la_stC, la_stM, partOf, partFits, setEl, setPart, Option.isSome_some, Option.getD_some, List.take_succ_cons, List.take_zero, List.drop_succ_cons, List.drop_zero, List.nil_append, List.cons_append, List.getD_cons_zero, List.getD_cons_succ, List.length_cons, List.length_nil, List.set_cons_zero, List.append_nil, List.drop_nil, List.take_nil, Nat.reduceAdd, Nat.reduceLT, Nat.reduceLeDiff, Nat.zero_add, Nat.add_zero, Nat.lt_add_one, Nat.le_refl, Nat.zero_le, Nat.zero_lt_succ, fillP, fillC, Nat.reduceLeDiff, lgAt, isRd, lgAt, isRd, pv_faC, pv_faV, q0, q2, q5, q7, q8, q11, q12, q13, q79, q80, q81, hL, a11, a12, a13, c0, c4, Int.reduceLT, Int.reduceToNat, Nat.reduceMul, d1, d2, d3, d4, d5, d6, k1, x1a, x1b, x2a, x2b, z4, z5, fillEC, fillE, List.replicate, List.set]
      obtain ⟨o', H2, p1, p2, p3, p4, p5, s1, H3, s2, s3⟩ := x3 [⟨79, g', 0, [.pv (H0.n + 1) 12, .pv (H0.n + 1) 13, .pv (H0.n + 1) 14]⟩, ⟨5, 2, 0, [.ag [.i .i64 0, .i .i64 0, .i .i64 0, .i .i64 1]]⟩, ⟨2, 0, 0, [.ag [.i .i64 0, .b false, .i .i64 0, .b false, .b false, .b false, .b false, .b false, .b false, .b false, .i .i64 0, .ns, .ns, .ns, .ns]]⟩] g
      simp -implicitDefEqProofs only [x_q, x_o, x_b, x_k, x_x, x_r, x_it, x_if, x_p, p_nil, p_on, p_off, p_mv, p_pk, p_bn, p_un, p_be, p_nl, p_eqa, p_ci, p_cbs, p_csb, p_ex, p_bd, p_fd, p_ix, p_ixa, p_ss, p_sl, p_sla, p_ln, p_lns, p_lnm, p_al, p_bx, p_lal, p_lbx, p_ld, p_st, p_fa, p_ia, p_iaa, p_bs, p_lbs, p_mk, p_ap, p_cp, p_cl, p_cv, p_mf, p_nc, p_mm, p_mkm, p_lk, p_mu, p_dl, p_rs, p_nx, cfC, lgPut, isOk, rv, rh, Bool.false_eq_true, d_nil, d_on, d_off, d_mv, d_pk, d_bn, d_un, d_be, d_nl, d_eqa, d_ci, d_cbs, d_csb, d_ex, d_bd, d_fd, d_ix, d_ixa, d_ss, d_sl, d_sla, d_ln, d_lns, d_lnm, d_al, d_bx, d_lal, d_lbx, d_ld, d_st, d_fa, d_ia, d_iaa, d_bs, d_lbs, d_mk, d_ap, d_cp, d_cl, d_cv, d_mf, d_nc, d_mm, d_mkm, d_lk, d_mu, d_dl, d_rs, d_nx, okO, vlO, mmO, dsO, putE, args, evT, evs, evO, look, kOps, kSeq, kBlk, keepE, reduceIte, Nat.reduceEqDiff, binC, binV, intC, intV, strC, strV, unC, unV, AV.isI, AV.isB, AV.isS, AV.toI, AV.toK, AV.toS, allOut, o_b, o_i, o_s, o_np, o_pv, o_pe, o_ns, o_sl, o_nm, o_mp, o_nf, o_fn, o_ag, q_b, q_i, q_s, q_np, q_pv, q_pe, q_ns, q_sl, q_nm, q_mp, q_nf, q_fn, q_ag, Bool.and_true, Bool.and_self, Bool.true_and, AV.b.injEq, decide_eq_true_eq, decide_eq_false_iff_not, true_and, and_true, and_self, reduceCtorEq, imp_self, implies_true, forall_const, eq_self, ex_tp, ex_ag, List.getD_cons_zero, List.getD_cons_succ, List.length_cons, List.length_nil, Nat.reduceAdd, Nat.reduceLT, Nat.zero_add, bne_self_eq_false, p1, p2, p3, p4, p5, s1, s2]
      exact ⟨0, by omega, 1, o', H3, _, _, by omega, by omega, rfl, rfl, rfl, s3⟩
    · simp -implicitDefEqProofs only [x_q, x_o, x_b, x_k, x_x, x_r, x_it, x_if, x_p, p_nil, p_on, p_off, p_mv, p_pk, p_bn, p_un, p_be, p_nl, p_eqa, p_ci, p_cbs, p_csb, p_ex, p_bd, p_fd, p_ix, p_ixa, p_ss, p_sl, p_sla, p_ln, p_lns, p_lnm, p_al, p_bx, p_lal, p_lbx, p_ld, p_st, p_fa, p_ia, p_iaa, p_bs, p_lbs, p_mk, p_ap, p_cp, p_cl, p_cv, p_mf, p_nc, p_mm, p_mkm, p_lk, p_mu, p_dl, p_rs, p_nx, cfC, lgPut, isOk, rv, rh, Bool.false_eq_true, d_nil, d_on, d_off, d_mv, d_pk, d_bn, d_un, d_be, d_nl, d_eqa, d_ci, d_cbs, d_csb, d_ex, d_bd, d_fd, d_ix, d_ixa, d_ss, d_sl, d_sla, d_ln, d_lns, d_lnm, d_al, d_bx, d_lal, d_lbx, d_ld, d_st, d_fa, d_ia, d_iaa, d_bs, d_lbs, d_mk, d_ap, d_cp, d_cl, d_cv, d_mf, d_nc, d_mm, d_mkm, d_lk, d_mu, d_dl, d_rs, d_nx, okO, vlO, mmO, dsO, putE, args, evT, evs, evO, look, kOps, kSeq, kBlk, keepE, reduceIte, Nat.reduceEqDiff, binC, binV, intC, intV, strC, strV, unC, unV, AV.isI, AV.isB, AV.isS, AV.toI, AV.toK, AV.toS, allOut, o_b, o_i, o_s, o_np, o_pv, o_pe, o_ns, o_sl, o_nm, o_mp, o_nf, o_fn, o_ag, q_b, q_i, q_s, q_np, q_pv, q_pe, q_ns, q_sl, q_nm, q_mp, q_nf, q_fn, q_ag, Bool.and_true, Bool.and_self, Bool.true_and, AV.b.injEq, decide_eq_true_eq, decide_eq_false_iff_not, true_and, and_true, and_self, reduceCtorEq, imp_self, implies_true, forall_const, eq_self, ex_tp, ex_ag, List.getD_cons_zero, List.getD_cons_succ, List.length_cons, List.length_nil, Nat.reduceAdd, Nat.reduceLT, Nat.zero_add, bne_self_eq_false, decide_true, decide_false, eq_self, true_implies, false_implies, forall_const, Bool.true_eq_false, Bool.not_true, Bool.not_false, not_true_eq_false, not_false_eq_true, if_true, if_false, pickV, cond_true, cond_false, boolV, fillEC, fillE, List.replicate, List.set, Mem.newL, Mem.keep, Int.reduceToNat, Nat.reduceSub, List.drop_zero, Int.reduceLE, Int.le_refl, Nat.sub_zero, Mem.newL, Mem.newL, Mem.getL, Mem.hasL, lookL, setL, dropL, keepL, memN, la_faC, la_faV, la_ldC, la_ldX, la_stC, la_stM, partOf, partFits, setEl, setPart, Option.isSome_some, Option.getD_some, List.take_succ_cons, List.take_zero, List.drop_succ_cons, List.drop_zero, List.nil_append, List.cons_append, List.getD_cons_zero, List.getD_cons_succ, List.length_cons, List.length_nil, List.set_cons_zero, List.append_nil, List.drop_nil, List.take_nil, Nat.reduceAdd, Nat.reduceLT, Nat.reduceLeDiff, Nat.zero_add, Nat.add_zero, Nat.lt_add_one, Nat.le_refl, Nat.zero_le, Nat.zero_lt_succ, fillP, fillC, Nat.reduceLeDiff, lgAt, isRd, pv_faC, pv_faV, q0, q2, q5, q7, q8, q11, q12, q13, q79, q80, q81, hL, a11, a12, a13, c1, c4, Int.reduceLT, Int.reduceToNat, Nat.reduceMul]
      exact ⟨3 - 3, by omega, 3, c, H', _, _, g', by omega, by omega, rfl, rfl, rfl, rfl, hs⟩
  · rw [show decide (3 = 3) = true from rfl] at hs
    have hdec := hs.dec
    have hms := hs.ms
    rw [if_pos rfl] at hdec
    obtain ⟨⟨d1, d2, d3⟩, d4, d5, d6⟩ := hdec.lds
    obtain ⟨m1, m2⟩ := hms.lds
    have m1' : ∀ (L : List Lv) (g : Nat), ldC ⟨L, g, H'⟩ (some 15) (.pv (H0.n + 1) 0) := m1
    have m2' : ∀ (L : List Lv) (g : Nat), ldX ⟨L, g, H'⟩ (some 15) (.pv (H0.n + 1) 0) = .ag [.i .i64 0, .b false, .i .i64 0, .b false, .b false, .b false, .b false, .b false, .b false, .b false, .i .i64 0, .ns, .ns, .ns, c] := m2
    have hrow := hs.row
    rw [if_pos rfl] at hrow
    have oc := hrow.1.sl.out
    simp -implicitDefEqProofs only [x_q, x_o, x_b, x_k, x_x, x_r, x_it, x_if, x_p, p_nil, p_on, p_off, p_mv, p_pk, p_bn, p_un, p_be, p_nl, p_eqa, p_ci, p_cbs, p_csb, p_ex, p_bd, p_fd, p_ix, p_ixa, p_ss, p_sl, p_sla, p_ln, p_lns, p_lnm, p_al, p_bx, p_lal, p_lbx, p_ld, p_st, p_fa, p_ia, p_iaa, p_bs, p_lbs, p_mk, p_ap, p_cp, p_cl, p_cv, p_mf, p_nc, p_mm, p_mkm, p_lk, p_mu, p_dl, p_rs, p_nx, cfC, lgPut, isOk, rv, rh, Bool.false_eq_true, d_nil, d_on, d_off, d_mv, d_pk, d_bn, d_un, d_be, d_nl, d_eqa, d_ci, d_cbs, d_csb, d_ex, d_bd, d_fd, d_ix, d_ixa, d_ss, d_sl, d_sla, d_ln, d_lns, d_lnm, d_al, d_bx, d_lal, d_lbx, d_ld, d_st, d_fa, d_ia, d_iaa, d_bs, d_lbs, d_mk, d_ap, d_cp, d_cl, d_cv, d_mf, d_nc, d_mm, d_mkm, d_lk, d_mu, d_dl, d_rs, d_nx, okO, vlO, mmO, dsO, putE, args, evT, evs, evO, look, kOps, kSeq, kBlk, keepE, reduceIte, Nat.reduceEqDiff, binC, binV, intC, intV, strC, strV, unC, unV, AV.isI, AV.isB, AV.isS, AV.toI, AV.toK, AV.toS, allOut, o_b, o_i, o_s, o_np, o_pv, o_pe, o_ns, o_sl, o_nm, o_mp, o_nf, o_fn, o_ag, q_b, q_i, q_s, q_np, q_pv, q_pe, q_ns, q_sl, q_nm, q_mp, q_nf, q_fn, q_ag, Bool.and_true, Bool.and_self, Bool.true_and, AV.b.injEq, decide_eq_true_eq, decide_eq_false_iff_not, true_and, and_true, and_self, reduceCtorEq, imp_self, implies_true, forall_const, eq_self, ex_tp, ex_ag, List.getD_cons_zero, List.getD_cons_succ, List.length_cons, List.length_nil, Nat.reduceAdd, Nat.reduceLT, Nat.zero_add, bne_self_eq_false, decide_true, decide_false, eq_self, true_implies, false_implies, forall_const, Bool.true_eq_false, Bool.not_true, Bool.not_false, not_true_eq_false, not_false_eq_true, if_true, if_false, pickV, cond_true, cond_false, boolV, fillEC, fillE, List.replicate, List.set, Mem.newL, Mem.keep, Int.reduceToNat, Nat.reduceSub, List.drop_zero, Int.reduceLE, Int.le_refl, Nat.sub_zero, Mem.newL, Mem.newL, Mem.getL, Mem.hasL, lookL, setL, dropL, keepL, memN, la_faC, la_faV, la_ldC, la_ldX, la_stC, la_stM, partOf, partFits, setEl, setPart, Option.isSome_some, Option.getD_some, List.take_succ_cons, List.take_zero, List.drop_succ_cons, List.drop_zero, List.nil_append, List.cons_append, List.getD_cons_zero, List.getD_cons_succ, List.length_cons, List.length_nil, List.set_cons_zero, List.append_nil, List.drop_nil, List.take_nil, Nat.reduceAdd, Nat.reduceLT, Nat.reduceLeDiff, Nat.zero_add, Nat.add_zero, Nat.lt_add_one, Nat.le_refl, Nat.zero_le, Nat.zero_lt_succ, fillP, fillC, Nat.reduceLeDiff, lgAt, isRd, pv_faC, pv_faV, q0, q2, q5, q7, q8, q79, q80, q81, hL, show ((3 : Nat) : Int) = 3 from rfl, Int.reduceLT, d1, d2, d3, d4, d5, d6, l1, l2, m1', m2', oc, endK, rsC, rsV, resV]
    exact ⟨hs.ext, c, rfl, hrow.1, hrow.2⟩
end
end Go.Vm

/- The law of the senders' records returns true. -/
namespace Go.Vm
set_option linter.unusedVariables false
set_option linter.unusedSimpArgs false
def EncSPost (r : Rr) (H : AH) (v : AV) (H' : AH) : Prop := Ext H H' ∧ if (hdr1 ++ recB r).length > 65535 then v = .tp [.ns, .i .i64 11] else ∃ bv, v = .tp [bv, .i .i64 0] ∧ Byt H' bv (hdr1 ++ recB r) ∧ Cl H' bv
def T_EncodeS (C : Tab) (f : Nat) : Prop := ∀ (c : AV) (r : Rr) (H : AH), FormsOK H → Sx H eR c [r] → Plain r → formless r.t → ∃ v H', C f [mV hd0 .ns .ns .ns c] H = some (v, H') ∧ EncSPost r H v H'
def T_rdEdns (C : Tab) (f : Nat) : Prop := ∀ (q a b c : AV) (m : Msg) (H : AH), MsgS H q a b c m → szM m ≤ 1048576 → ∃ v H', C f [mV m.h q a b c] H = some (v, H') ∧ RePost (rdE m) H v H'
theorem ex_ag2 {l m : List AV} {ks : List Ck} : (∃ xs ys, AV.ag l = AV.ag xs ∧ AV.ag m = AV.ag ys ∧ areCk xs ks = true ∧ areCk ys ks = true) = (areCk l ks = true ∧ areCk m ks = true) :=
  propext ⟨fun ⟨_, _, h1, h2, h3, h4⟩ => by cases h1; cases h2; exact ⟨h3, h4⟩, fun h => ⟨_, _, rfl, rfl, h.1, h.2⟩⟩
/-- What the record says is what was said. -/
theorem opsD_wire : ∀ (os : List Opt), (∀ o, o ∈ os → optOk o) → opsD (datO os) = some os
  | [], _ => opsD_nil
  | o :: r, h => by
    have ho := h o (by simp)
    have ih := opsD_wire r fun x hx => h x (by simp [hx])
    obtain ⟨c, d⟩ := o
    obtain ⟨h1, h2, h3⟩ := ho
    simp only at h1 h2 h3
    have e : datO ((c, d) :: r) = be16 c.toNat ++ (be16 d.length ++ (d ++ datO r)) := by simp [datO, wire]
    have e1 : ((datO ((c, d) :: r)).drop 2).take 2 = be16 d.length := by rw [e]; rfl
    have e0 : (datO ((c, d) :: r)).take 2 = be16 c.toNat := by rw [e]; rfl
    have e4 : (datO ((c, d) :: r)).drop 4 = d ++ datO r := by rw [e]; rfl
    have n1 : num (((datO ((c, d) :: r)).drop 2).take 2) 0 = d.length := by rw [e1, num_be16 h3]
    have hl : (datO ((c, d) :: r)).length = 4 + d.length + (datO r).length := by rw [e]; simp [be16]; omega
    have hne : datO ((c, d) :: r) ≠ [] := fun hh => by rw [hh] at hl; simp at hl; omega
    rw [opsD_ok hne (by rw [n1, hl]; omega), n1, ← List.drop_drop, e4, List.drop_left, ih]
    simp only [Option.map_some, opt1, e0, n1, e4, num_be16 (show c.toNat ≤ 65535 by omega), List.take_left]
    congr 2
    exact Prod.ext (Int.toNat_of_nonneg h1) rfl
theorem rdE_said {size code flags : Int} {os : List Opt} (h : ednsOk size code flags os) : rdE ⟨hd0, [], [], [], [ednsR size code flags os]⟩ = (⟨true, size, 0, flags, os⟩, 0) := by
  obtain ⟨⟨h1, h2⟩, ⟨h3, h4⟩, ⟨h5, h6⟩, h7, h8⟩ := h
  have e : ([ednsR size code flags os].filter isOpt) = [ednsR size code flags os] := rfl
  have hn : ((code.toNat * 16777216 + flags.toNat : Nat) : Int) = code * 16777216 + flags := by omega
  have v : (code * 16777216 + flags).fdiv (2 ^ (min 16 IntKind.i64.bits)) = ((code.toNat * 256 : Nat) : Int) := by
    rw [← hn]
    have := fdiv_nat (code.toNat * 16777216 + flags.toNat) 16
    refine this.trans ?_
    omega
  have g1 : bitw .and .i64 ((code.toNat * 256 : Nat) : Int) 255 = 0 := by
    have := and_low (n := code.toNat * 256) (k := 8) (by omega) (by decide)
    refine this.trans ?_
    omega
  have g2 : bitw .and .i64 (code * 16777216 + flags) 65535 = flags := by
    rw [← hn]
    have := and_low (n := code.toNat * 16777216 + flags.toNat) (k := 16) (by omega) (by decide)
    refine this.trans ?_
    omega
  rw [rdE, e, if_neg (by simp)]
  simp only [show (ednsR size code flags os).d = datO os from rfl, opsD_wire os h7]
  rw [if_pos (show (ednsR size code flags os).o = [0] from rfl)]
  unfold edR ednsR
  simp only [v, g1, g2]
theorem said_plain {size code flags : Int} {os : List Opt} (h : ednsOk size code flags os) : Plain (ednsR size code flags os) ∧ formless (ednsR size code flags os).t := by
  obtain ⟨⟨h1, h2⟩, ⟨h3, h4⟩, ⟨h5, h6⟩, h7, h8⟩ := h
  refine ⟨⟨rfl, ?_, ?_, ?_, ?_, ?_⟩, formless41⟩
  · simp only [ednsR]; omega
  · simp only [ednsR]; omega
  · simp only [ednsR]; omega
  · simp only [ednsR]; omega
  · simp only [ednsR]; decide
section
variable {C : Tab}
set_option maxRecDepth 100000 in
theorem r_law_Edns {a : AV} {l : List UInt8} {H : AH} (hD : T_draw C n_spec_DrawEdnsRecord) (h6 : T_edns C n_spec_EdnsRecord) (h8 : T_edns C n_impl_EdnsRecord) (hE : T_EncodeS C n_impl_Encode) (h10 : T_Decode1 C n_impl_Decode) (h11 : T_rdEdns C n_impl_ReadEdns)
    (h : Byt H a l) (hF : FormsOK H) : Runs C c_laws_FnEdns [a] H fun v _ => v = .b true := by
  unfold Runs c_laws_FnEdns
  obtain ⟨l1, l2⟩ := h.len
  have oa := h.out
  by_cases hb : (1048576 : Int) < l.length
  · simp -implicitDefEqProofs only [x_q, x_o, x_b, x_k, x_x, x_r, x_it, x_if, x_p, p_nil, p_on, p_off, p_mv, p_pk, p_bn, p_un, p_be, p_nl, p_eqa, p_ci, p_cbs, p_csb, p_ex, p_bd, p_fd, p_ix, p_ixa, p_ss, p_sl, p_sla, p_ln, p_lns, p_lnm, p_al, p_bx, p_lal, p_lbx, p_ld, p_st, p_fa, p_ia, p_iaa, p_bs, p_lbs, p_mk, p_ap, p_cp, p_cl, p_cv, p_mf, p_nc, p_mm, p_mkm, p_lk, p_mu, p_dl, p_rs, p_nx, cfC, lgPut, isOk, rv, rh, Bool.false_eq_true, d_nil, d_on, d_off, d_mv, d_pk, d_bn, d_un, d_be, d_nl, d_eqa, d_ci, d_cbs, d_csb, d_ex, d_bd, d_fd, d_ix, d_ixa, d_ss, d_sl, d_sla, d_ln, d_lns, d_lnm, d_al, d_bx, d_lal, d_lbx, d_ld, d_st, d_fa, d_ia, d_iaa, d_bs, d_lbs, d_mk, d_ap, d_cp, d_cl, d_cv, d_mf, d_nc, d_mm, d_mkm, d_lk, d_mu, d_dl, d_rs, d_nx, okO, vlO, mmO, dsO, putE, args, evT, evs, evO, look, kOps, kSeq, kBlk, keepE, reduceIte, Nat.reduceEqDiff, binC, binV, intC, intV, strC, strV, unC, unV, AV.isI, AV.isB, AV.isS, AV.toI, AV.toK, AV.toS, allOut, o_b, o_i, o_s, o_np, o_pv, o_pe, o_ns, o_sl, o_nm, o_mp, o_nf, o_fn, o_ag, q_b, q_i, q_s, q_np, q_pv, q_pe, q_ns, q_sl, q_nm, q_mp, q_nf, q_fn, q_ag, Bool.and_true, Bool.and_self, Bool.true_and, AV.b.injEq, decide_eq_true_eq, decide_eq_false_iff_not, true_and, and_true, and_self, reduceCtorEq, imp_self, implies_true, forall_const, eq_self, ex_tp, ex_ag, List.getD_cons_zero, List.getD_cons_succ, List.length_cons, List.length_nil, Nat.reduceAdd, Nat.reduceLT, Nat.zero_add, bne_self_eq_false, decide_true, decide_false, eq_self, true_implies, false_implies, forall_const, Bool.true_eq_false, Bool.not_true, Bool.not_false, not_true_eq_false, not_false_eq_true, if_true, if_false, pickV, cond_true, cond_false, boolV, fillEC, fillE, List.replicate, List.set, Mem.newL, Mem.keep, Int.reduceToNat, Nat.reduceSub, List.drop_zero, Int.reduceLE, Int.le_refl, Nat.sub_zero, Mem.newL, Mem.newL, Mem.getL, Mem.hasL, lookL, setL, dropL, keepL, memN, la_faC, la_faV, la_ldC, la_ldX, la_stC, la_stM, partOf, partFits, setEl, setPart, Option.isSome_some, Option.getD_some, List.take_succ_cons, List.take_zero, List.drop_succ_cons, List.drop_zero, List.nil_append, List.cons_append, List.getD_cons_zero, List.getD_cons_succ, List.length_cons, List.length_nil, List.set_cons_zero, List.append_nil, List.drop_nil, List.take_nil, Nat.reduceAdd, Nat.reduceLT, Nat.reduceLeDiff, Nat.zero_add, Nat.add_zero, Nat.lt_add_one, Nat.le_refl, Nat.zero_le, Nat.zero_lt_succ, fillP, fillC, Nat.reduceLeDiff, lgAt, isRd, l1, l2, hb, endK, rsC, rsV, resV]
  obtain ⟨v1, H1, k1, size, code, flags, ov, os, rfl, b1, t1, e1⟩ := hD a l H h (by omega)
  have oo := b1.out
  obtain ⟨v2, H2, k2, e2, r2⟩ := h6 ov os size code flags H1 b1 t1
  obtain ⟨v3, H3, k3, e3, r3⟩ := h8 ov os size code flags H2 (Sl.ext b1 e2) t1
  by_cases hok : ednsOk size code flags os
  · obtain ⟨-, rfl⟩ : ednsOk size code flags os ∧ v2 = .tp [eR.v (ednsR size code flags os), .i .i64 0] := r2.resolve_right fun h => h.1 hok
    obtain ⟨-, rfl⟩ : ednsOk size code flags os ∧ v3 = .tp [eR.v (ednsR size code flags os), .i .i64 0] := r3.resolve_right fun h => h.1 hok
    obtain ⟨hpl, hfl⟩ := said_plain hok
    have hrd := rdE_said hok
    have hdl : (ednsR size code flags os).d.length ≤ 65535 := hok.2.2.2.2
    generalize hr : ednsR size code flags os = r at *
    have b3 : Sx H3 eO ov os := Sl.ext b1 (e2.trans e3)
    have F3 : FormsOK H3 := hF.ext ((e1.trans e2).trans e3)
    have bc : Sx (H3.new (.arr true 0 5 [eR.v r])) eR (.sl H3.n 0 1) [r] := by
      have := Mn.own (H := H3.new (.arr true 0 5 [eR.v r])) (z := 5) (xs := [eR.v r]) (id := H3.n) (st := 0) (by simp) new_at
      exact this.sl
    obtain ⟨v4, H4, k4, e4, r4⟩ := hE (.sl H3.n 0 1) r _ (F3.ext (.new _ _)) bc hpl hfl
    simp only [mV, hd0] at k4
    by_cases hlong : (hdr1 ++ recB r).length > 65535
    · rw [if_pos hlong] at r4
      subst r4
      simp only [Enc.v, eR] at k2 k3 k4
      simp -implicitDefEqProofs only [x_q, x_o, x_b, x_k, x_x, x_r, x_it, x_if, x_p, p_nil, p_on, p_off, p_mv, p_pk, p_bn, p_un, p_be, p_nl, p_eqa, p_ci, p_cbs, p_csb, p_ex, p_bd, p_fd, p_ix, p_ixa, p_ss, p_sl, p_sla, p_ln, p_lns, p_lnm, p_al, p_bx, p_lal, p_lbx, p_ld, p_st, p_fa, p_ia, p_iaa, p_bs, p_lbs, p_mk, p_ap, p_cp, p_cl, p_cv, p_mf, p_nc, p_mm, p_mkm, p_lk, p_mu, p_dl, p_rs, p_nx, cfC, lgPut, isOk, rv, rh, Bool.false_eq_true, d_nil, d_on, d_off, d_mv, d_pk, d_bn, d_un, d_be, d_nl, d_eqa, d_ci, d_cbs, d_csb, d_ex, d_bd, d_fd, d_ix, d_ixa, d_ss, d_sl, d_sla, d_ln, d_lns, d_lnm, d_al, d_bx, d_lal, d_lbx, d_ld, d_st, d_fa, d_ia, d_iaa, d_bs, d_lbs, d_mk, d_ap, d_cp, d_cl, d_cv, d_mf, d_nc, d_mm, d_mkm, d_lk, d_mu, d_dl, d_rs, d_nx, okO, vlO, mmO, dsO, putE, args, evT, evs, evO, look, kOps, kSeq, kBlk, keepE, reduceIte, Nat.reduceEqDiff, binC, binV, intC, intV, strC, strV, unC, unV, AV.isI, AV.isB, AV.isS, AV.toI, AV.toK, AV.toS, allOut, o_b, o_i, o_s, o_np, o_pv, o_pe, o_ns, o_sl, o_nm, o_mp, o_nf, o_fn, o_ag, q_b, q_i, q_s, q_np, q_pv, q_pe, q_ns, q_sl, q_nm, q_mp, q_nf, q_fn, q_ag, Bool.and_true, Bool.and_self, Bool.true_and, AV.b.injEq, decide_eq_true_eq, decide_eq_false_iff_not, true_and, and_true, and_self, reduceCtorEq, imp_self, implies_true, forall_const, eq_self, ex_tp, ex_ag, List.getD_cons_zero, List.getD_cons_succ, List.length_cons, List.length_nil, Nat.reduceAdd, Nat.reduceLT, Nat.zero_add, bne_self_eq_false, decide_true, decide_false, eq_self, true_implies, false_implies, forall_const, Bool.true_eq_false, Bool.not_true, Bool.not_false, not_true_eq_false, not_false_eq_true, if_true, if_false, pickV, cond_true, cond_false, boolV, fillEC, fillE, List.replicate, List.set, Mem.newL, Mem.keep, Int.reduceToNat, Nat.reduceSub, List.drop_zero, Int.reduceLE, Int.le_refl, Nat.sub_zero, Mem.newL, Mem.newL, Mem.getL, Mem.hasL, lookL, setL, dropL, keepL, memN, la_faC, la_faV, la_ldC, la_ldX, la_stC, la_stM, partOf, partFits, setEl, setPart, Option.isSome_some, Option.getD_some, List.take_succ_cons, List.take_zero, List.drop_succ_cons, List.drop_zero, List.nil_append, List.cons_append, List.getD_cons_zero, List.getD_cons_succ, List.length_cons, List.length_nil, List.set_cons_zero, List.append_nil, List.drop_nil, List.take_nil, Nat.reduceAdd, Nat.reduceLT, Nat.reduceLeDiff, Nat.zero_add, Nat.add_zero, Nat.lt_add_one, Nat.le_refl, Nat.zero_le, Nat.zero_lt_succ, fillP, fillC, Nat.reduceLeDiff, lgAt, isRd, l1, l2, hb, oa, oo, k1, k2, k3, k4, Enc.v, eR, ex_ag2, areCk, AV.isCk, AV.cells, cellsEq, cellEq, beq_self_eq_true, fillEC, fillE, List.replicate, List.set, bne_self_eq_false, Bool.bne_false, endK, rsC, rsV, resV]
    · rw [if_neg hlong] at r4
      obtain ⟨bv, rfl, b4, c4⟩ := r4
      have F4 : FormsOK H4 := F3.ext ((Ext.new _ _).trans e4)
      obtain ⟨v5, H5, k5, e5, c, rfl, m5, i5⟩ := h10 bv r H4 b4 c4 (by omega) hpl hfl F4
      have hro := hpl.o
      obtain ⟨v6, H6, k6, ao, rfl, m6, e6, i6⟩ := h11 .ns .ns .ns c ⟨hd0, [], [], [], [r]⟩ H5 ⟨.nil, .nil, .nil, m5.sl⟩ (by simp [szM, tot', w_RR, hro]; omega)
      rw [hrd] at k6 m6
      have obv := b4.out
      have oc := m5.sl.out
      have oao := m6.sl.out
      have b6 : Sx H6 eO ov os := Sl.ext b3 ((((Ext.new _ _).trans e4).trans e5).trans e6)
      obtain ⟨y1, y2⟩ := b6.len
      obtain ⟨y3, y4⟩ := m6.sl.len
      simp only [List.length_map] at y1 y3
      simp only [mV, hd0] at k5 k6
      simp only [edV] at k6
      simp only [Enc.v, eR] at k2 k3 k4
      simp -implicitDefEqProofs only [x_q, x_o, x_b, x_k, x_x, x_r, x_it, x_if, x_p, p_nil, p_on, p_off, p_mv, p_pk, p_bn, p_un, p_be, p_nl, p_eqa, p_ci, p_cbs, p_csb, p_ex, p_bd, p_fd, p_ix, p_ixa, p_ss, p_sl, p_sla, p_ln, p_lns, p_lnm, p_al, p_bx, p_lal, p_lbx, p_ld, p_st, p_fa, p_ia, p_iaa, p_bs, p_lbs, p_mk, p_ap, p_cp, p_cl, p_cv, p_mf, p_nc, p_mm, p_mkm, p_lk, p_mu, p_dl, p_rs, p_nx, cfC, lgPut, isOk, rv, rh, Bool.false_eq_true, d_nil, d_on, d_off, d_mv, d_pk, d_bn, d_un, d_be, d_nl, d_eqa, d_ci, d_cbs, d_csb, d_ex, d_bd, d_fd, d_ix, d_ixa, d_ss, d_sl, d_sla, d_ln, d_lns, d_lnm, d_al, d_bx, d_lal, d_lbx, d_ld, d_st, d_fa, d_ia, d_iaa, d_bs, d_lbs, d_mk, d_ap, d_cp, d_cl, d_cv, d_mf, d_nc, d_mm, d_mkm, d_lk, d_mu, d_dl, d_rs, d_nx, okO, vlO, mmO, dsO, putE, args, evT, evs, evO, look, kOps, kSeq, kBlk, keepE, reduceIte, Nat.reduceEqDiff, binC, binV, intC, intV, strC, strV, unC, unV, AV.isI, AV.isB, AV.isS, AV.toI, AV.toK, AV.toS, allOut, o_b, o_i, o_s, o_np, o_pv, o_pe, o_ns, o_sl, o_nm, o_mp, o_nf, o_fn, o_ag, q_b, q_i, q_s, q_np, q_pv, q_pe, q_ns, q_sl, q_nm, q_mp, q_nf, q_fn, q_ag, Bool.and_true, Bool.and_self, Bool.true_and, AV.b.injEq, decide_eq_true_eq, decide_eq_false_iff_not, true_and, and_true, and_self, reduceCtorEq, imp_self, implies_true, forall_const, eq_self, ex_tp, ex_ag, List.getD_cons_zero, List.getD_cons_succ, List.length_cons, List.length_nil, Nat.reduceAdd, Nat.reduceLT, Nat.zero_add, bne_self_eq_false, decide_true, decide_false, eq_self, true_implies, false_implies, forall_const, Bool.true_eq_false, Bool.not_true, Bool.not_false, not_true_eq_false, not_false_eq_true, if_true, if_false, pickV, cond_true, cond_false, boolV, fillEC, fillE, List.replicate, List.set, Mem.newL, Mem.keep, Int.reduceToNat, Nat.reduceSub, List.drop_zero, Int.reduceLE, Int.le_refl, Nat.sub_zero, Mem.newL, Mem.newL, Mem.getL, Mem.hasL, lookL, setL, dropL, keepL, memN, la_faC, la_faV, la_ldC, la_ldX, la_stC, la_stM, partOf, partFits, setEl, setPart, Option.isSome_some, Option.getD_some, List.take_succ_cons, List.take_zero, List.drop_succ_cons, List.drop_zero, List.nil_append, List.cons_append, List.getD_cons_zero, List.getD_cons_succ, List.length_cons, List.length_nil, List.set_cons_zero, List.append_nil, List.drop_nil, List.take_nil, Nat.reduceAdd, Nat.reduceLT, Nat.reduceLeDiff, Nat.zero_add, Nat.add_zero, Nat.lt_add_one, Nat.le_refl, Nat.zero_le, Nat.zero_lt_succ, fillP, fillC, Nat.reduceLeDiff, lgAt, isRd, l1, l2, hb, oa, oo, k1, k2, k3, k4, k5, k6, mV, obv, oc, oao, y1, y2, y3, y4, Int.reduceEq, Enc.v, eR, ex_ag2, areCk, AV.isCk, AV.cells, cellsEq, cellEq, beq_self_eq_true, fillEC, fillE, List.replicate, List.set, bne_self_eq_false, Bool.bne_false]
      refine exec_loop (fun n e M => ∃ (i : Nat) (L : List Lv) (g g' : Nat), i ≤ os.length ∧ n = os.length - i ∧ look e 6 = ov ∧ look e 15 = .la 15 g' 0 0 ∧ look e 17 = .i .i64 i ∧ M = ⟨L, g, H6⟩ ∧ keepL [6, 15, 17] L = [⟨15, g', 0, [edV ⟨true, size, 0, flags, os⟩ ao]⟩]) ?_ (n := os.length)
        ⟨0, _, _, _, by omega, by omega, rfl, rfl, rfl, rfl, rfl⟩
      rintro n e M ⟨i, L, g, g', hi, rfl, q6, q15, q17, rfl, hL⟩
      simp only [edV] at hL
      by_cases hlt : (i : Int) < os.length
      · have hil : i < os.length := by omega
        obtain ⟨d1, d2, d3, d4⟩ := Sx.at' b6 hil
        obtain ⟨f1, f2, f3, f4⟩ := Sx.at' m6.sl hil
        simp only [show eO.z = 2 from rfl, show eO.v os[i] = AV.ag [.i .i64 os[i].1, .s os[i].2] from rfl] at d1 d3 d4 f1 f3 f4
        have w8 : IntKind.i64.wrap ((i : Int) + 1) = ((i + 1 : Nat) : Int) := by rw [w64 (by omega) (by omega)]; rfl
        simp -implicitDefEqProofs only [x_q, x_o, x_b, x_k, x_x, x_r, x_it, x_if, x_p, p_nil, p_on, p_off, p_mv, p_pk, p_bn, p_un, p_be, p_nl, p_eqa, p_ci, p_cbs, p_csb, p_ex, p_bd, p_fd, p_ix, p_ixa, p_ss, p_sl, p_sla, p_ln, p_lns, p_lnm, p_al, p_bx, p_lal, p_lbx, p_ld, p_st, p_fa, p_ia, p_iaa, p_bs, p_lbs, p_mk, p_ap, p_cp, p_cl, p_cv, p_mf, p_nc, p_mm, p_mkm, p_lk, p_mu, p_dl, p_rs, p_nx, cfC, lgPut, isOk, rv, rh, Bool.false_eq_true, d_nil, d_on, d_off, d_mv, d_pk, d_bn, d_un, d_be, d_nl, d_eqa, d_ci, d_cbs, d_csb, d_ex, d_bd, d_fd, d_ix, d_ixa, d_ss, d_sl, d_sla, d_ln, d_lns, d_lnm, d_al, d_bx, d_lal, d_lbx, d_ld, d_st, d_fa, d_ia, d_iaa, d_bs, d_lbs, d_mk, d_ap, d_cp, d_cl, d_cv, d_mf, d_nc, d_mm, d_mkm, d_lk, d_mu, d_dl, d_rs, d_nx, okO, vlO, mmO, dsO, putE, args, evT, evs, evO, look, kOps, kSeq, kBlk, keepE, reduceIte, Nat.reduceEqDiff, binC, binV, intC, intV, strC, strV, unC, unV, AV.isI, AV.isB, AV.isS, AV.toI, AV.toK, AV.toS, allOut, o_b, o_i, o_s, o_np, o_pv, o_pe, o_ns, o_sl, o_nm, o_mp, o_nf, o_fn, o_ag, q_b, q_i, q_s, q_np, q_pv, q_pe, q_ns, q_sl, q_nm, q_mp, q_nf, q_fn, q_ag, Bool.and_true, Bool.and_self, Bool.true_and, AV.b.injEq, decide_eq_true_eq, decide_eq_false_iff_not, true_and, and_true, and_self, reduceCtorEq, imp_self, implies_true, forall_const, eq_self, ex_tp, ex_ag, List.getD_cons_zero, List.getD_cons_succ, List.length_cons, List.length_nil, Nat.reduceAdd, Nat.reduceLT, Nat.zero_add, bne_self_eq_false, decide_true, decide_false, eq_self, true_implies, false_implies, forall_const, Bool.true_eq_false, Bool.not_true, Bool.not_false, not_true_eq_false, not_false_eq_true, if_true, if_false, pickV, cond_true, cond_false, boolV, fillEC, fillE, List.replicate, List.set, Mem.newL, Mem.keep, Int.reduceToNat, Nat.reduceSub, List.drop_zero, Int.reduceLE, Int.le_refl, Nat.sub_zero, Mem.newL, Mem.newL, Mem.getL, Mem.hasL, lookL, setL, dropL, keepL, memN, la_faC, la_faV, la_ldC, la_ldX, la_stC, la_stM, partOf, partFits, setEl, setPart, Option.isSome_some, Option.getD_some, List.take_succ_cons, List.take_zero, List.drop_succ_cons, List.drop_zero, List.nil_append, List.cons_append, List.getD_cons_zero, List.getD_cons_succ, List.length_cons, List.length_nil, List.set_cons_zero, List.append_nil, List.drop_nil, List.take_nil, Nat.reduceAdd, Nat.reduceLT, Nat.reduceLeDiff, Nat.zero_add, Nat.add_zero, Nat.lt_add_one, Nat.le_refl, Nat.zero_le, Nat.zero_lt_succ, fillP, fillC, Nat.reduceLeDiff, lgAt, isRd, q6, q15, q17, hL, y1, y2, hlt, d1, d2, d3, d4, f1, f2, f3, f4, toNat_nat, w8, ex_ag2, areCk, AV.isCk, AV.cells, cellsEq, cellEq, beq_self_eq_true]
        exact ⟨os.length - (i + 1), by omega, i + 1, _, _, g', by omega, rfl, rfl, rfl, rfl, rfl⟩
      · simp -implicitDefEqProofs only [x_q, x_o, x_b, x_k, x_x, x_r, x_it, x_if, x_p, p_nil, p_on, p_off, p_mv, p_pk, p_bn, p_un, p_be, p_nl, p_eqa, p_ci, p_cbs, p_csb, p_ex, p_bd, p_fd, p_ix, p_ixa, p_ss, p_sl, p_sla, p_ln, p_lns, p_lnm, p_al, p_bx, p_lal, p_lbx, p_ld, p_st, p_fa, p_ia, p_iaa, p_bs, p_lbs, p_mk, p_ap, p_cp, p_cl, p_cv, p_mf, p_nc, p_mm, p_mkm, p_lk, p_mu, p_dl, p_rs, p_nx, cfC, lgPut, isOk, rv, rh, Bool.false_eq_true, d_nil, d_on, d_off, d_mv, d_pk, d_bn, d_un, d_be, d_nl, d_eqa, d_ci, d_cbs, d_csb, d_ex, d_bd, d_fd, d_ix, d_ixa, d_ss, d_sl, d_sla, d_ln, d_lns, d_lnm, d_al, d_bx, d_lal, d_lbx, d_ld, d_st, d_fa, d_ia, d_iaa, d_bs, d_lbs, d_mk, d_ap, d_cp, d_cl, d_cv, d_mf, d_nc, d_mm, d_mkm, d_lk, d_mu, d_dl, d_rs, d_nx, okO, vlO, mmO, dsO, putE, args, evT, evs, evO, look, kOps, kSeq, kBlk, keepE, reduceIte, Nat.reduceEqDiff, binC, binV, intC, intV, strC, strV, unC, unV, AV.isI, AV.isB, AV.isS, AV.toI, AV.toK, AV.toS, allOut, o_b, o_i, o_s, o_np, o_pv, o_pe, o_ns, o_sl, o_nm, o_mp, o_nf, o_fn, o_ag, q_b, q_i, q_s, q_np, q_pv, q_pe, q_ns, q_sl, q_nm, q_mp, q_nf, q_fn, q_ag, Bool.and_true, Bool.and_self, Bool.true_and, AV.b.injEq, decide_eq_true_eq, decide_eq_false_iff_not, true_and, and_true, and_self, reduceCtorEq, imp_self, implies_true, forall_const, eq_self, ex_tp, ex_ag, List.getD_cons_zero, List.getD_cons_succ, List.length_cons, List.length_nil, Nat.reduceAdd, Nat.reduceLT, Nat.zero_add, bne_self_eq_false, decide_true, decide_false, eq_self, true_implies, false_implies, forall_const, Bool.true_eq_false, Bool.not_true, Bool.not_false, not_true_eq_false, not_false_eq_true, if_true, if_false, pickV, cond_true, cond_false, boolV, fillEC, fillE, List.replicate, List.set, Mem.newL, Mem.keep, Int.reduceToNat, Nat.reduceSub, List.drop_zero, Int.reduceLE, Int.le_refl, Nat.sub_zero, Mem.newL, Mem.newL, Mem.getL, Mem.hasL, lookL, setL, dropL, keepL, memN, la_faC, la_faV, la_ldC, la_ldX, la_stC, la_stM, partOf, partFits, setEl, setPart, Option.isSome_some, Option.getD_some, List.take_succ_cons, List.take_zero, List.drop_succ_cons, List.drop_zero, List.nil_append, List.cons_append, List.getD_cons_zero, List.getD_cons_succ, List.length_cons, List.length_nil, List.set_cons_zero, List.append_nil, List.drop_nil, List.take_nil, Nat.reduceAdd, Nat.reduceLT, Nat.reduceLeDiff, Nat.zero_add, Nat.add_zero, Nat.lt_add_one, Nat.le_refl, Nat.zero_le, Nat.zero_lt_succ, fillP, fillC, Nat.reduceLeDiff, lgAt, isRd, q6, q15, q17, hL, y1, y2, hlt, endK, rsC, rsV, resV]
  · obtain rfl : v2 = .tp [eR.v rr0, .i .i64 32] := (r2.resolve_left fun h => hok h.1).2
    obtain rfl : v3 = .tp [eR.v rr0, .i .i64 32] := (r3.resolve_left fun h => hok h.1).2
    simp only [Enc.v, eR, rr0] at k2 k3
    simp -implicitDefEqProofs only [x_q, x_o, x_b, x_k, x_x, x_r, x_it, x_if, x_p, p_nil, p_on, p_off, p_mv, p_pk, p_bn, p_un, p_be, p_nl, p_eqa, p_ci, p_cbs, p_csb, p_ex, p_bd, p_fd, p_ix, p_ixa, p_ss, p_sl, p_sla, p_ln, p_lns, p_lnm, p_al, p_bx, p_lal, p_lbx, p_ld, p_st, p_fa, p_ia, p_iaa, p_bs, p_lbs, p_mk, p_ap, p_cp, p_cl, p_cv, p_mf, p_nc, p_mm, p_mkm, p_lk, p_mu, p_dl, p_rs, p_nx, cfC, lgPut, isOk, rv, rh, Bool.false_eq_true, d_nil, d_on, d_off, d_mv, d_pk, d_bn, d_un, d_be, d_nl, d_eqa, d_ci, d_cbs, d_csb, d_ex, d_bd, d_fd, d_ix, d_ixa, d_ss, d_sl, d_sla, d_ln, d_lns, d_lnm, d_al, d_bx, d_lal, d_lbx, d_ld, d_st, d_fa, d_ia, d_iaa, d_bs, d_lbs, d_mk, d_ap, d_cp, d_cl, d_cv, d_mf, d_nc, d_mm, d_mkm, d_lk, d_mu, d_dl, d_rs, d_nx, okO, vlO, mmO, dsO, putE, args, evT, evs, evO, look, kOps, kSeq, kBlk, keepE, reduceIte, Nat.reduceEqDiff, binC, binV, intC, intV, strC, strV, unC, unV, AV.isI, AV.isB, AV.isS, AV.toI, AV.toK, AV.toS, allOut, o_b, o_i, o_s, o_np, o_pv, o_pe, o_ns, o_sl, o_nm, o_mp, o_nf, o_fn, o_ag, q_b, q_i, q_s, q_np, q_pv, q_pe, q_ns, q_sl, q_nm, q_mp, q_nf, q_fn, q_ag, Bool.and_true, Bool.and_self, Bool.true_and, AV.b.injEq, decide_eq_true_eq, decide_eq_false_iff_not, true_and, and_true, and_self, reduceCtorEq, imp_self, implies_true, forall_const, eq_self, ex_tp, ex_ag, List.getD_cons_zero, List.getD_cons_succ, List.length_cons, List.length_nil, Nat.reduceAdd, Nat.reduceLT, Nat.zero_add, bne_self_eq_false, decide_true, decide_false, eq_self, true_implies, false_implies, forall_const, Bool.true_eq_false, Bool.not_true, Bool.not_false, not_true_eq_false, not_false_eq_true, if_true, if_false, pickV, cond_true, cond_false, boolV, fillEC, fillE, List.replicate, List.set, Mem.newL, Mem.keep, Int.reduceToNat, Nat.reduceSub, List.drop_zero, Int.reduceLE, Int.le_refl, Nat.sub_zero, Mem.newL, Mem.newL, Mem.getL, Mem.hasL, lookL, setL, dropL, keepL, memN, la_faC, la_faV, la_ldC, la_ldX, la_stC, la_stM, partOf, partFits, setEl, setPart, Option.isSome_some, Option.getD_some, List.take_succ_cons, List.take_zero, List.drop_succ_cons, List.drop_zero, List.nil_append, List.cons_append, List.getD_cons_zero, List.getD_cons_succ, List.length_cons, List.length_nil, List.set_cons_zero, List.append_nil, List.drop_nil, List.take_nil, Nat.reduceAdd, Nat.reduceLT, Nat.reduceLeDiff, Nat.zero_add, Nat.add_zero, Nat.lt_add_one, Nat.le_refl, Nat.zero_le, Nat.zero_lt_succ, fillP, fillC, Nat.reduceLeDiff, lgAt, isRd, l1, l2, hb, oa, oo, k1, k2, k3, Enc.v, eR, ex_ag2, areCk, AV.isCk, AV.cells, cellsEq, cellEq, beq_self_eq_true, Int.reduceEq, fillEC, fillE, List.replicate, List.set, bne_self_eq_false, Bool.bne_false, endK, rsC, rsV, resV]
end
end Go.Vm
