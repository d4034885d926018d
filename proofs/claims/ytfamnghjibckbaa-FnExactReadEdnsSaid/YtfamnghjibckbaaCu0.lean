/- Runs of helpers over rows of bytes. -/
import Derived.Test.YtfamnghjibckbaaVm20
import Derived.Test.YtfamnghjibckbaaCuC
namespace Go.Vm
set_option linter.unusedVariables false
set_option linter.unusedSimpArgs false
section
variable {C : Tab}
theorem r_toByteS {a : AV} {l : List UInt8} {H : AH} (h : Byt H a l) (hl : l.length ≤ 1099511627776) : Runs C c_laws_toByteS [a] H fun v H' => Mb H' v l ∧ Ext H H' ∧ ∀ i, i ∈ idA v → H.n ≤ i := by
  unfold Runs c_laws_toByteS
  obtain ⟨h1, h2⟩ := h.len
  simp only [x_q, x_o, x_b, x_k, x_x, x_r, x_i, x_p, doPs, cfC, lgPut, isOk, rv, rh, Bool.false_eq_true, doOs, okO, vlO, mmO, dsO, putE, args, evT, evs, evO, look, kOps, kSeq, kBlk, keepE, reduceIte, Nat.reduceEqDiff, binC, binV, intC, intV, strC, strV, unC, unV, AV.isI, AV.isB, AV.isS, AV.toI, AV.toK, AV.toS, allOut, o_b, o_i, o_s, o_np, o_pv, o_pe, o_ns, o_sl, o_nm, o_mp, o_nf, o_fn, o_ag, q_b, q_i, q_s, q_np, q_pv, q_pe, q_ns, q_sl, q_nm, q_mp, q_nf, q_fn, q_ag, Bool.and_true, Bool.and_self, Bool.true_and, AV.b.injEq, decide_eq_true_eq, decide_eq_false_iff_not, true_and, and_true, and_self, h1, h2]
  refine ⟨by omega, exec_loop (fun n e M => ∃ i : Nat, i ≤ l.length ∧ n = l.length - i ∧ look e 0 = a ∧ look e 3 = .sl H.n 0 l.length ∧ look e 4 = .i .i64 i ∧ ∃ L g H', M = ⟨L, g, H'⟩ ∧ Ext H H' ∧ Mb H' (.sl H.n 0 l.length) (l.take i ++ List.replicate (l.length - i) 0)) ?_ (n := l.length) ⟨0, by omega, by omega, rfl, rfl, rfl, _, _, _, rfl, .new _ _, ?_⟩⟩
  · rintro n e M ⟨i, hi, rfl, q0, q3, q4, L, g, H', rfl, he, hm⟩
    simp only [x_q, x_o, x_b, x_k, x_x, x_r, x_i, x_p, doPs, cfC, lgPut, isOk, rv, rh, Bool.false_eq_true, doOs, okO, vlO, mmO, dsO, putE, args, evT, evs, evO, look, kOps, kSeq, kBlk, keepE, reduceIte, Nat.reduceEqDiff, binC, binV, intC, intV, strC, strV, unC, unV, AV.isI, AV.isB, AV.isS, AV.toI, AV.toK, AV.toS, allOut, o_b, o_i, o_s, o_np, o_pv, o_pe, o_ns, o_sl, o_nm, o_mp, o_nf, o_fn, o_ag, q_b, q_i, q_s, q_np, q_pv, q_pe, q_ns, q_sl, q_nm, q_mp, q_nf, q_fn, q_ag, Bool.and_true, Bool.and_self, Bool.true_and, AV.b.injEq, decide_eq_true_eq, decide_eq_false_iff_not, true_and, and_true, and_self, q0, q3, q4, h1, h2, Mem.keep]
    refine ⟨fun hlt => ?_, fun hge => ?_⟩
    · obtain ⟨b1, b2, b3, b4⟩ := Byt.ia (h.ext he) (j := i) (by omega) hlt (keepL [0, 3, 4] L) g
      obtain ⟨c1, c2, c3, H2, c4, c5, c6, c7⟩ := hm.st (j := i) (by omega) (by simp; omega) (l.getD (i : Int).toNat 0) (keepL [0, 3, 4] L) g
      simp only [b1, b2, b3, b4, c1, c2, c3, c4, x_q, x_o, x_b, x_k, x_x, x_r, x_i, x_p, doPs, cfC, lgPut, isOk, rv, rh, Bool.false_eq_true, doOs, okO, vlO, mmO, dsO, putE, args, evT, evs, evO, look, kOps, kSeq, kBlk, keepE, reduceIte, Nat.reduceEqDiff, binC, binV, intC, intV, strC, strV, unC, unV, AV.isI, AV.isB, AV.isS, AV.toI, AV.toK, AV.toS, allOut, o_b, o_i, o_s, o_np, o_pv, o_pe, o_ns, o_sl, o_nm, o_mp, o_nf, o_fn, o_ag, q_b, q_i, q_s, q_np, q_pv, q_pe, q_ns, q_sl, q_nm, q_mp, q_nf, q_fn, q_ag, Bool.and_true, Bool.and_self, Bool.true_and, AV.b.injEq, decide_eq_true_eq, decide_eq_false_iff_not, true_and, and_true, and_self, List.length_cons, List.length_nil]
      refine ⟨l.length - (i + 1), by omega, i + 1, by omega, rfl, by rw [w64 (by omega) (by omega)]; rfl, _, _, H2, rfl, he.put (l := [H.n]) (by simp) (Nat.le_of_eq c6.symm) (fun i _ hi => c7 i hi), ?_⟩
      rw [toNat_nat, take_rep_set (by omega)] at c5
      exact c5
    · have hil : i = l.length := by omega
      subst hil
      simp only [x_q, x_o, x_b, x_k, x_x, x_r, x_i, x_p, doPs, cfC, lgPut, isOk, rv, rh, Bool.false_eq_true, doOs, okO, vlO, mmO, dsO, putE, args, evT, evs, evO, look, kOps, kSeq, kBlk, keepE, reduceIte, Nat.reduceEqDiff, binC, binV, intC, intV, strC, strV, unC, unV, AV.isI, AV.isB, AV.isS, AV.toI, AV.toK, AV.toS, allOut, o_b, o_i, o_s, o_np, o_pv, o_pe, o_ns, o_sl, o_nm, o_mp, o_nf, o_fn, o_ag, q_b, q_i, q_s, q_np, q_pv, q_pe, q_ns, q_sl, q_nm, q_mp, q_nf, q_fn, q_ag, Bool.and_true, Bool.and_self, Bool.true_and, AV.b.injEq, decide_eq_true_eq, decide_eq_false_iff_not, true_and, and_true, and_self, q3, endK, rsC, rsV, resV]
      exact ⟨by simpa using hm, he, by simp [idA]⟩
  · rw [toNat_nat]
    have := Mn.own (H := H.new (.arr true 0 1 (List.replicate l.length (.i .u8 0)))) (z := 1) (by simp) new_at
    simpa [Mb, encB] using this
theorem r_eqByteS {a b : AV} {l : List UInt8} {H : AH} (h : Byt H a l) (h' : Byt H b l) (hl : l.length ≤ 1099511627776) : Runs C c_laws_eqByteS [a, b] H fun v H' => v = .b true ∧ H' = H := by
  unfold Runs c_laws_eqByteS
  obtain ⟨h1, h2⟩ := Byt.len h
  obtain ⟨h3, h4⟩ := Byt.len h'
  simp only [x_q, x_o, x_b, x_k, x_x, x_r, x_i, x_p, doPs, cfC, lgPut, isOk, rv, rh, Bool.false_eq_true, doOs, okO, vlO, mmO, dsO, putE, args, evT, evs, evO, look, kOps, kSeq, kBlk, keepE, reduceIte, Nat.reduceEqDiff, binC, binV, intC, intV, strC, strV, unC, unV, AV.isI, AV.isB, AV.isS, AV.toI, AV.toK, AV.toS, allOut, o_b, o_i, o_s, o_np, o_pv, o_pe, o_ns, o_sl, o_nm, o_mp, o_nf, o_fn, o_ag, q_b, q_i, q_s, q_np, q_pv, q_pe, q_ns, q_sl, q_nm, q_mp, q_nf, q_fn, q_ag, Bool.and_true, Bool.and_self, Bool.true_and, AV.b.injEq, decide_eq_true_eq, decide_eq_false_iff_not, true_and, and_true, and_self, h1, h2, h3, h4]
  refine ⟨fun h => by simp at h, fun _ => exec_loop (fun n e M => ∃ i : Nat, i ≤ l.length ∧ n = l.length - i ∧ look e 0 = a ∧ look e 1 = b ∧ look e 5 = .i .i64 i ∧ ∃ L g, M = ⟨L, g, H⟩) ?_ (n := l.length) ⟨0, by omega, by omega, rfl, rfl, rfl, _, _, rfl⟩⟩
  rintro n e M ⟨i, hi, rfl, q0, q1, q5, L, g, rfl⟩
  simp only [x_q, x_o, x_b, x_k, x_x, x_r, x_i, x_p, doPs, cfC, lgPut, isOk, rv, rh, Bool.false_eq_true, doOs, okO, vlO, mmO, dsO, putE, args, evT, evs, evO, look, kOps, kSeq, kBlk, keepE, reduceIte, Nat.reduceEqDiff, binC, binV, intC, intV, strC, strV, unC, unV, AV.isI, AV.isB, AV.isS, AV.toI, AV.toK, AV.toS, allOut, o_b, o_i, o_s, o_np, o_pv, o_pe, o_ns, o_sl, o_nm, o_mp, o_nf, o_fn, o_ag, q_b, q_i, q_s, q_np, q_pv, q_pe, q_ns, q_sl, q_nm, q_mp, q_nf, q_fn, q_ag, Bool.and_true, Bool.and_self, Bool.true_and, AV.b.injEq, decide_eq_true_eq, decide_eq_false_iff_not, true_and, and_true, and_self, q0, q1, q5, h1, h2, Mem.keep]
  refine ⟨fun hlt => ?_, fun hge => ?_⟩
  · obtain ⟨b1, b2, b3, b4⟩ := Byt.ia h (j := i) (by omega) hlt (keepL [0, 1, 5] L) g
    obtain ⟨c1, c2, c3, c4⟩ := Byt.ia h' (j := i) (by omega) hlt (keepL [0, 1, 5] L) g
    simp only [b1, b2, b3, b4, c1, c2, c3, c4, x_q, x_o, x_b, x_k, x_x, x_r, x_i, x_p, doPs, cfC, lgPut, isOk, rv, rh, Bool.false_eq_true, doOs, okO, vlO, mmO, dsO, putE, args, evT, evs, evO, look, kOps, kSeq, kBlk, keepE, reduceIte, Nat.reduceEqDiff, binC, binV, intC, intV, strC, strV, unC, unV, AV.isI, AV.isB, AV.isS, AV.toI, AV.toK, AV.toS, allOut, o_b, o_i, o_s, o_np, o_pv, o_pe, o_ns, o_sl, o_nm, o_mp, o_nf, o_fn, o_ag, q_b, q_i, q_s, q_np, q_pv, q_pe, q_ns, q_sl, q_nm, q_mp, q_nf, q_fn, q_ag, Bool.and_true, Bool.and_self, Bool.true_and, AV.b.injEq, decide_eq_true_eq, decide_eq_false_iff_not, true_and, and_true, and_self]
    refine ⟨fun h => by simp at h, fun _ => ⟨l.length - (i + 1), by omega, i + 1, by omega, rfl, by rw [w64 (by omega) (by omega)]; rfl, _, _, rfl⟩⟩
  · simp only [x_q, x_o, x_b, x_k, x_x, x_r, x_i, x_p, doPs, cfC, lgPut, isOk, rv, rh, Bool.false_eq_true, doOs, okO, vlO, mmO, dsO, putE, args, evT, evs, evO, look, kOps, kSeq, kBlk, keepE, reduceIte, Nat.reduceEqDiff, binC, binV, intC, intV, strC, strV, unC, unV, AV.isI, AV.isB, AV.isS, AV.toI, AV.toK, AV.toS, allOut, o_b, o_i, o_s, o_np, o_pv, o_pe, o_ns, o_sl, o_nm, o_mp, o_nf, o_fn, o_ag, q_b, q_i, q_s, q_np, q_pv, q_pe, q_ns, q_sl, q_nm, q_mp, q_nf, q_fn, q_ag, Bool.and_true, Bool.and_self, Bool.true_and, AV.b.injEq, decide_eq_true_eq, decide_eq_false_iff_not, true_and, and_true, and_self, endK, rsC, rsV, resV]
def marks (k : Nat) : Nat → List UInt8
  | 0 => []
  | n + 1 => marks k n ++ [UInt8.ofNat (k + n)]
@[simp] theorem marks_len (k : Nat) : ∀ n, (marks k n).length = n
  | 0 => rfl
  | n + 1 => by simp [marks, marks_len k n]
theorem marks_get {k : Nat} : ∀ {n i : Nat}, i < n → (marks k n).getD i 0 = UInt8.ofNat (k + i)
  | n + 1, i, h => by
    simp only [marks, List.getD]
    by_cases e : i = n
    · subst e
      rw [List.getElem?_append_right (by simp)]
      simp
    · rw [List.getElem?_append_left (by simp; omega)]
      exact marks_get (n := n) (by omega)
theorem marks_set {k i : Nat} {l : List UInt8} (h : i < l.length) : (marks k i ++ l.drop i).set i (UInt8.ofNat (k + i)) = marks k (i + 1) ++ l.drop (i + 1) := by
  rw [List.set_append_right _ _ (by simp), marks_len, Nat.sub_self, List.drop_eq_getElem_cons h, List.set_cons_zero]
  simp [marks]
theorem r_markByteS {a : AV} {l : List UInt8} {k : Nat} {H : AH} (h : Mb H a l) (hl : l.length ≤ 1099511627776) (hk : k ≤ 1099511627776) :
    Runs C c_laws_markByteS [a, .i .i64 k] H fun v H' => v = .i .i64 ((k + l.length : Nat) : Int) ∧ Mb H' a (marks k l.length) ∧ H'.n = H.n ∧ ∀ i, ¬ i ∈ idA a → H'.at' i = H.at' i := by
  unfold Runs c_laws_markByteS
  obtain ⟨h1, h2⟩ := Byt.len (Mn.sl h)
  simp only [x_q, x_o, x_b, x_k, x_x, x_r, x_i, x_p, doPs, cfC, lgPut, isOk, rv, rh, Bool.false_eq_true, doOs, okO, vlO, mmO, dsO, putE, args, evT, evs, evO, look, kOps, kSeq, kBlk, keepE, reduceIte, Nat.reduceEqDiff, binC, binV, intC, intV, strC, strV, unC, unV, AV.isI, AV.isB, AV.isS, AV.toI, AV.toK, AV.toS, allOut, o_b, o_i, o_s, o_np, o_pv, o_pe, o_ns, o_sl, o_nm, o_mp, o_nf, o_fn, o_ag, q_b, q_i, q_s, q_np, q_pv, q_pe, q_ns, q_sl, q_nm, q_mp, q_nf, q_fn, q_ag, Bool.and_true, Bool.and_self, Bool.true_and, AV.b.injEq, decide_eq_true_eq, decide_eq_false_iff_not, true_and, and_true, and_self, h1, h2]
  refine exec_loop (fun n e M => ∃ i : Nat, i ≤ l.length ∧ n = l.length - i ∧ look e 0 = a ∧ look e 1 = .i .i64 ((k + i : Nat) : Int) ∧ look e 5 = .i .i64 i ∧ ∃ L g H', M = ⟨L, g, H'⟩ ∧ Mb H' a (marks k i ++ l.drop i) ∧ H'.n = H.n ∧ ∀ i, ¬ i ∈ idA a → H'.at' i = H.at' i) ?_ (n := l.length) ⟨0, by omega, by omega, rfl, rfl, rfl, _, _, _, rfl, h, rfl, fun _ _ => rfl⟩
  rintro n e M ⟨i, hi, rfl, q0, q1, q5, L, g, H', rfl, hm, hn, ho⟩
  simp only [x_q, x_o, x_b, x_k, x_x, x_r, x_i, x_p, doPs, cfC, lgPut, isOk, rv, rh, Bool.false_eq_true, doOs, okO, vlO, mmO, dsO, putE, args, evT, evs, evO, look, kOps, kSeq, kBlk, keepE, reduceIte, Nat.reduceEqDiff, binC, binV, intC, intV, strC, strV, unC, unV, AV.isI, AV.isB, AV.isS, AV.toI, AV.toK, AV.toS, allOut, o_b, o_i, o_s, o_np, o_pv, o_pe, o_ns, o_sl, o_nm, o_mp, o_nf, o_fn, o_ag, q_b, q_i, q_s, q_np, q_pv, q_pe, q_ns, q_sl, q_nm, q_mp, q_nf, q_fn, q_ag, Bool.and_true, Bool.and_self, Bool.true_and, AV.b.injEq, decide_eq_true_eq, decide_eq_false_iff_not, true_and, and_true, and_self, q0, q1, q5, h1, h2, Mem.keep]
  refine ⟨fun hlt => ?_, fun hge => ?_⟩
  · obtain ⟨c1, c2, c3, H2, c4, c5, c6, c7⟩ := hm.st (j := i) (by omega) (by simp; omega) (UInt8.ofNat (k + i)) (keepL [0, 1, 5] L) g
    simp only [c1, c2, c3, c4, u8w, x_q, x_o, x_b, x_k, x_x, x_r, x_i, x_p, doPs, cfC, lgPut, isOk, rv, rh, Bool.false_eq_true, doOs, okO, vlO, mmO, dsO, putE, args, evT, evs, evO, look, kOps, kSeq, kBlk, keepE, reduceIte, Nat.reduceEqDiff, binC, binV, intC, intV, strC, strV, unC, unV, AV.isI, AV.isB, AV.isS, AV.toI, AV.toK, AV.toS, allOut, o_b, o_i, o_s, o_np, o_pv, o_pe, o_ns, o_sl, o_nm, o_mp, o_nf, o_fn, o_ag, q_b, q_i, q_s, q_np, q_pv, q_pe, q_ns, q_sl, q_nm, q_mp, q_nf, q_fn, q_ag, Bool.and_true, Bool.and_self, Bool.true_and, AV.b.injEq, decide_eq_true_eq, decide_eq_false_iff_not, true_and, and_true, and_self, List.length_cons, List.length_nil]
    refine ⟨l.length - (i + 1), by omega, i + 1, by omega, rfl, by rw [w64 (by omega) (by omega)]; rfl, by rw [w64 (by omega) (by omega)]; rfl, _, _, H2, rfl, ?_, c6.trans hn, fun j hj => (c7 j hj).trans (ho j hj)⟩
    rw [toNat_nat, marks_set (by omega)] at c5
    exact c5
  · have hil : i = l.length := by omega
    subst hil
    simp only [x_q, x_o, x_b, x_k, x_x, x_r, x_i, x_p, doPs, cfC, lgPut, isOk, rv, rh, Bool.false_eq_true, doOs, okO, vlO, mmO, dsO, putE, args, evT, evs, evO, look, kOps, kSeq, kBlk, keepE, reduceIte, Nat.reduceEqDiff, binC, binV, intC, intV, strC, strV, unC, unV, AV.isI, AV.isB, AV.isS, AV.toI, AV.toK, AV.toS, allOut, o_b, o_i, o_s, o_np, o_pv, o_pe, o_ns, o_sl, o_nm, o_mp, o_nf, o_fn, o_ag, q_b, q_i, q_s, q_np, q_pv, q_pe, q_ns, q_sl, q_nm, q_mp, q_nf, q_fn, q_ag, Bool.and_true, Bool.and_self, Bool.true_and, AV.b.injEq, decide_eq_true_eq, decide_eq_false_iff_not, true_and, and_true, and_self, q1, endK, rsC, rsV, resV]
    exact ⟨by simpa using hm, hn, ho⟩
theorem r_heldByteS {a : AV} {m k : Nat} {H : AH} (h : Byt H a (marks k m)) (hl : m ≤ 1099511627776) (hk : k ≤ 1099511627776) :
    Runs C c_laws_heldByteS [a, .i .i64 k] H fun v H' => v = .i .i64 ((k + m : Nat) : Int) ∧ H' = H := by
  unfold Runs c_laws_heldByteS
  obtain ⟨h1, h2⟩ := Byt.len h
  rw [marks_len] at h1
  simp only [x_q, x_o, x_b, x_k, x_x, x_r, x_i, x_p, doPs, cfC, lgPut, isOk, rv, rh, Bool.false_eq_true, doOs, okO, vlO, mmO, dsO, putE, args, evT, evs, evO, look, kOps, kSeq, kBlk, keepE, reduceIte, Nat.reduceEqDiff, binC, binV, intC, intV, strC, strV, unC, unV, AV.isI, AV.isB, AV.isS, AV.toI, AV.toK, AV.toS, allOut, o_b, o_i, o_s, o_np, o_pv, o_pe, o_ns, o_sl, o_nm, o_mp, o_nf, o_fn, o_ag, q_b, q_i, q_s, q_np, q_pv, q_pe, q_ns, q_sl, q_nm, q_mp, q_nf, q_fn, q_ag, Bool.and_true, Bool.and_self, Bool.true_and, AV.b.injEq, decide_eq_true_eq, decide_eq_false_iff_not, true_and, and_true, and_self, h1, h2]
  refine exec_loop (fun n e M => ∃ i : Nat, i ≤ m ∧ n = m - i ∧ look e 0 = a ∧ look e 1 = .i .i64 ((k + i : Nat) : Int) ∧ look e 5 = .i .i64 i ∧ ∃ L g, M = ⟨L, g, H⟩) ?_ (n := m) ⟨0, by omega, by omega, rfl, rfl, rfl, _, _, rfl⟩
  rintro n e M ⟨i, hi, rfl, q0, q1, q5, L, g, rfl⟩
  simp only [x_q, x_o, x_b, x_k, x_x, x_r, x_i, x_p, doPs, cfC, lgPut, isOk, rv, rh, Bool.false_eq_true, doOs, okO, vlO, mmO, dsO, putE, args, evT, evs, evO, look, kOps, kSeq, kBlk, keepE, reduceIte, Nat.reduceEqDiff, binC, binV, intC, intV, strC, strV, unC, unV, AV.isI, AV.isB, AV.isS, AV.toI, AV.toK, AV.toS, allOut, o_b, o_i, o_s, o_np, o_pv, o_pe, o_ns, o_sl, o_nm, o_mp, o_nf, o_fn, o_ag, q_b, q_i, q_s, q_np, q_pv, q_pe, q_ns, q_sl, q_nm, q_mp, q_nf, q_fn, q_ag, Bool.and_true, Bool.and_self, Bool.true_and, AV.b.injEq, decide_eq_true_eq, decide_eq_false_iff_not, true_and, and_true, and_self, q0, q1, q5, h1, h2, Mem.keep]
  refine ⟨fun hlt => ?_, fun hge => ?_⟩
  · obtain ⟨b1, b2, b3, b4⟩ := Byt.ia h (j := i) (by omega) (by rw [marks_len]; exact hlt) (keepL [0, 1, 5] L) g
    rw [toNat_nat, marks_get (by omega)] at b4
    simp only [toNat_nat] at b3
    simp only [b1, b2, b3, b4, u8w, toNat_nat, x_q, x_o, x_b, x_k, x_x, x_r, x_i, x_p, doPs, cfC, lgPut, isOk, rv, rh, Bool.false_eq_true, doOs, okO, vlO, mmO, dsO, putE, args, evT, evs, evO, look, kOps, kSeq, kBlk, keepE, reduceIte, Nat.reduceEqDiff, binC, binV, intC, intV, strC, strV, unC, unV, AV.isI, AV.isB, AV.isS, AV.toI, AV.toK, AV.toS, allOut, o_b, o_i, o_s, o_np, o_pv, o_pe, o_ns, o_sl, o_nm, o_mp, o_nf, o_fn, o_ag, q_b, q_i, q_s, q_np, q_pv, q_pe, q_ns, q_sl, q_nm, q_mp, q_nf, q_fn, q_ag, Bool.and_true, Bool.and_self, Bool.true_and, AV.b.injEq, decide_eq_true_eq, decide_eq_false_iff_not, true_and, and_true, and_self]
    refine ⟨fun h => by simp at h, fun _ => ⟨m - (i + 1), by omega, i + 1, by omega, rfl, by rw [w64 (by omega) (by omega)]; rfl, by rw [w64 (by omega) (by omega)]; rfl, _, _, rfl⟩⟩
  · have hil : i = m := by omega
    subst hil
    simp only [x_q, x_o, x_b, x_k, x_x, x_r, x_i, x_p, doPs, cfC, lgPut, isOk, rv, rh, Bool.false_eq_true, doOs, okO, vlO, mmO, dsO, putE, args, evT, evs, evO, look, kOps, kSeq, kBlk, keepE, reduceIte, Nat.reduceEqDiff, binC, binV, intC, intV, strC, strV, unC, unV, AV.isI, AV.isB, AV.isS, AV.toI, AV.toK, AV.toS, allOut, o_b, o_i, o_s, o_np, o_pv, o_pe, o_ns, o_sl, o_nm, o_mp, o_nf, o_fn, o_ag, q_b, q_i, q_s, q_np, q_pv, q_pe, q_ns, q_sl, q_nm, q_mp, q_nf, q_fn, q_ag, Bool.and_true, Bool.and_self, Bool.true_and, AV.b.injEq, decide_eq_true_eq, decide_eq_false_iff_not, true_and, and_true, and_self, q1, endK, rsC, rsV, resV]
def num : List UInt8 → Nat → Nat
  | [], n => n
  | b :: r, n => num r (n * 256 + b.toNat)
theorem num_app : ∀ (l : List UInt8) (b : UInt8) (n : Nat), num (l ++ [b]) n = num l n * 256 + b.toNat
  | [], b, n => rfl
  | c :: r, b, n => num_app r b _
theorem num_lt : ∀ (l : List UInt8) (n k : Nat), n < 256 ^ k → num l n < 256 ^ (k + l.length)
  | [], n, k, h => h
  | b :: r, n, k, h => by
    have hb := b.toNat_lt
    have := num_lt r (n * 256 + b.toNat) (k + 1) (by rw [Nat.pow_succ]; omega)
    rw [List.length_cons, show k + (r.length + 1) = k + 1 + r.length by omega]
    exact this
theorem r_l02Num {l : List UInt8} {H : AH} (hl : l.length ≤ 7) : Runs C c_spec_l02Num [.s l] H fun v H' => v = .i .i64 ((num l 0 : Nat) : Int) ∧ H' = H := by
  unfold Runs c_spec_l02Num
  simp only [x_q, x_o, x_b, x_k, x_x, x_r, x_i, x_p, doPs, cfC, lgPut, isOk, rv, rh, Bool.false_eq_true, doOs, okO, vlO, mmO, dsO, putE, args, evT, evs, evO, look, kOps, kSeq, kBlk, keepE, reduceIte, Nat.reduceEqDiff, binC, binV, intC, intV, strC, strV, unC, unV, AV.isI, AV.isB, AV.isS, AV.toI, AV.toK, AV.toS, allOut, o_b, o_i, o_s, o_np, o_pv, o_pe, o_ns, o_sl, o_nm, o_mp, o_nf, o_fn, o_ag, q_b, q_i, q_s, q_np, q_pv, q_pe, q_ns, q_sl, q_nm, q_mp, q_nf, q_fn, q_ag, Bool.and_true, Bool.and_self, Bool.true_and, AV.b.injEq, decide_eq_true_eq, decide_eq_false_iff_not, true_and, and_true, and_self]
  refine exec_loop (fun n e M => ∃ i : Nat, i ≤ l.length ∧ n = l.length - i ∧ look e 0 = .s l ∧ look e 3 = .i .i64 ((num (l.take i) 0 : Nat) : Int) ∧ look e 4 = .i .i64 i ∧ ∃ L g, M = ⟨L, g, H⟩) ?_ (n := l.length) ⟨0, by omega, by omega, rfl, rfl, rfl, _, _, rfl⟩
  rintro n e M ⟨i, hi, rfl, q0, q3, q4, L, g, rfl⟩
  simp only [x_q, x_o, x_b, x_k, x_x, x_r, x_i, x_p, doPs, cfC, lgPut, isOk, rv, rh, Bool.false_eq_true, doOs, okO, vlO, mmO, dsO, putE, args, evT, evs, evO, look, kOps, kSeq, kBlk, keepE, reduceIte, Nat.reduceEqDiff, binC, binV, intC, intV, strC, strV, unC, unV, AV.isI, AV.isB, AV.isS, AV.toI, AV.toK, AV.toS, allOut, o_b, o_i, o_s, o_np, o_pv, o_pe, o_ns, o_sl, o_nm, o_mp, o_nf, o_fn, o_ag, q_b, q_i, q_s, q_np, q_pv, q_pe, q_ns, q_sl, q_nm, q_mp, q_nf, q_fn, q_ag, Bool.and_true, Bool.and_self, Bool.true_and, AV.b.injEq, decide_eq_true_eq, decide_eq_false_iff_not, true_and, and_true, and_self, q0, q3, q4, Mem.keep]
  refine ⟨fun hlt => ?_, fun hge => ?_⟩
  · have hil : i < l.length := by omega
    have hb := (l[i]).toNat_lt
    have hlt := num_lt (l.take i) 0 0 (by simp)
    have hle : 256 ^ (0 + (l.take i).length) ≤ 256 ^ 6 := Nat.pow_le_pow_right (by omega) (by simp; omega)
    have e256 : (256 : Nat) ^ 6 = 281474976710656 := by decide
    have hg : l.getD i 0 = l[i] := by simp [List.getD, List.getElem?_eq_getElem hil]
    simp only [toNat_nat, hg]
    refine ⟨⟨by omega, by omega⟩, l.length - (i + 1), by omega, i + 1, by omega, rfl, ?_, by rw [w64 (by omega) (by omega)]; rfl, _, _, rfl⟩
    rw [← List.take_append_getElem hil, num_app, w64 (x := _ * 256) (by omega) (by omega), w64 (x := ((l[i]).toNat : Int)) (by omega) (by omega), w64 (by omega) (by omega)]
    congr 1
  · have hil : i = l.length := by omega
    subst hil
    simp only [x_q, x_o, x_b, x_k, x_x, x_r, x_i, x_p, doPs, cfC, lgPut, isOk, rv, rh, Bool.false_eq_true, doOs, okO, vlO, mmO, dsO, putE, args, evT, evs, evO, look, kOps, kSeq, kBlk, keepE, reduceIte, Nat.reduceEqDiff, binC, binV, intC, intV, strC, strV, unC, unV, AV.isI, AV.isB, AV.isS, AV.toI, AV.toK, AV.toS, allOut, o_b, o_i, o_s, o_np, o_pv, o_pe, o_ns, o_sl, o_nm, o_mp, o_nf, o_fn, o_ag, q_b, q_i, q_s, q_np, q_pv, q_pe, q_ns, q_sl, q_nm, q_mp, q_nf, q_fn, q_ag, Bool.and_true, Bool.and_self, Bool.true_and, AV.b.injEq, decide_eq_true_eq, decide_eq_false_iff_not, true_and, and_true, and_self, q3, endK, rsC, rsV, resV, List.take_length]
end
end Go.Vm
