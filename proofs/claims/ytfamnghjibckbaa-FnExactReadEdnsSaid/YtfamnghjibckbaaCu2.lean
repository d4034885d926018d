/- Runs of CutFrames, the spec's and the program's. -/
import Derived.Test.YtfamnghjibckbaaCu1
namespace Go.Vm
set_option linter.unusedVariables false
set_option linter.unusedSimpArgs false
/-- Frames cut off a stream: the frames, the rest, whether one of no length stopped it. -/
def cut (s : List UInt8) : List (List UInt8) × List UInt8 × Bool :=
  if h : s.length < 2 then ([], s, false) else
  if num (s.take 2) 0 = 0 then ([], [], true) else
  if s.length < num (s.take 2) 0 + 2 then ([], s, false) else
  ((s.drop 2).take (num (s.take 2) 0) :: (cut (s.drop (num (s.take 2) 0 + 2))).1, (cut (s.drop (num (s.take 2) 0 + 2))).2)
termination_by s.length
decreasing_by all_goals simp; omega
def cutR (a b : List UInt8) : List (List UInt8) × List UInt8 × Bool := if a.length > 65537 ∨ b.length > 400000 then ([], [], false) else cut (a ++ b)
theorem cut_le (n : Nat) : ∀ s : List UInt8, s.length ≤ n → tot (cut s).1 + (cut s).1.length ≤ s.length ∧ (cut s).2.1.length ≤ s.length := by
  induction n with
  | zero => intro s hs; rw [cut, dif_pos (by omega)]; simp [tot]
  | succ n ih =>
    intro s hs
    rw [cut]
    split
    · simp [tot]
    · split
      · simp [tot]
      · split
        · simp [tot]
        · rename_i h1 h2 h3
          obtain ⟨i1, i2⟩ := ih (s.drop (num (s.take 2) 0 + 2)) (by simp; omega)
          simp only [List.length_drop] at i1 i2
          simp only [tot, List.length_cons, List.length_take, List.length_drop]
          omega
theorem cut_ge {s : List UInt8} (h : ¬ s.length < 2) : cut s = if num (s.take 2) 0 = 0 then ([], [], true) else
    if s.length < num (s.take 2) 0 + 2 then ([], s, false) else
    ((s.drop 2).take (num (s.take 2) 0) :: (cut (s.drop (num (s.take 2) 0 + 2))).1, (cut (s.drop (num (s.take 2) 0 + 2))).2) := by rw [cut, dif_neg h]
/-- A slice of rows, all its own. -/
structure RowsH (H : AH) (n0 : Nat) (o : AV) (els : List AV) (ls : List (List UInt8)) : Prop where
  own : Mn H 1 o els
  rows : All2 (Mb H) els ls
  nd : (idA o ++ els.flatMap idA).Nodup
  ge : ∀ i, i ∈ idA o ++ els.flatMap idA → n0 ≤ i
theorem rows_lt {H : AH} {els : List AV} {ls : List (List UInt8)} (h : All2 (Mb H) els ls) : ∀ i, i ∈ els.flatMap idA → i < H.n := fun i hi => by
  obtain ⟨x, hx, hi⟩ := List.mem_flatMap.1 hi
  obtain ⟨l, hl⟩ := h.ex x hx
  exact Mn.lt hl i hi
theorem RowsH.lt {H : AH} {n0 : Nat} {o : AV} {els : List AV} {ls : List (List UInt8)} (h : RowsH H n0 o els ls) : ∀ i, i ∈ idA o ++ els.flatMap idA → i < H.n := fun i hi => (List.mem_append.1 hi).elim (h.own.lt i) (rows_lt h.rows i)
theorem RowsH.fr {H H' : AH} {n0 : Nat} {o : AV} {els : List AV} {ls : List (List UInt8)} (h : RowsH H n0 o els ls) (hn : H.n ≤ H'.n) (ha : ∀ i, i ∈ idA o ++ els.flatMap idA → H'.at' i = H.at' i) : RowsH H' n0 o els ls :=
  ⟨h.own.fr hn fun i hi => ha i (List.mem_append_left _ hi), All2.imp_mem (fun x l hx hm => Mn.fr hm hn fun i hi => ha i (List.mem_append_right _ (List.mem_flatMap.2 ⟨x, hx, hi⟩))) h.rows, h.nd, h.ge⟩
theorem RowsH.ext {H H' : AH} {n0 : Nat} {o : AV} {els : List AV} {ls : List (List UInt8)} (h : RowsH H n0 o els ls) (he : Ext H H') : RowsH H' n0 o els ls := h.fr he.n fun i hi => he.at' i (h.lt i hi)
theorem idA_nodup (a : AV) : (idA a).Nodup := by cases a <;> simp [idA]
theorem RowsH.push {H : AH} {n0 : Nat} {o : AV} {els : List AV} {ls : List (List UInt8)} (h : RowsH H n0 o els ls) {x : AV} {l : List UInt8} {L : List Lv} {g by' : Nat} {y : AV} (hx : Mb H x l) (hxi : ∀ i, i ∈ idA x → n0 ≤ i ∧ ¬ i ∈ idA o ++ els.flatMap idA) (hn : n0 ≤ H.n)
    (hy : srcV ⟨L, g, H⟩ y = [x] ∧ srcC ⟨L, g, H⟩ 1 y) (hb : (els.length + 1) * by' ≤ 140737488355328) :
    apC ⟨L, g, H⟩ 1 by' y o ∧ ∃ o' H', apV ⟨L, g, H⟩ y o = o' ∧ apM ⟨L, g, H⟩ 1 y o = ⟨L, g, H'⟩ ∧ RowsH H' n0 o' (els ++ [x]) (ls ++ [l]) ∧ H.n ≤ H'.n ∧ (∀ i, i < H.n → ¬ i ∈ idA o → H'.at' i = H.at' i) ∧ ∀ i, i ∈ idA o' → i ∈ idA o ∨ H.n ≤ i := by
  obtain ⟨h1, o', H', h2, h3, h4, h5, h6, h7, h8⟩ := h.own.ap (by' := by') hy hb
  refine ⟨h1, o', H', h2, h3, ⟨h4, ?_, ?_, ?_⟩, h5, h6, h7⟩
  · refine All2.append (All2.imp_mem (fun v l hv hm => Mn.fr hm h5 fun i hi => h6 i (Mn.lt hm i hi) fun ho => ?_) h.rows) ⟨hx.fr h5 fun i hi => h6 i (hx.lt i hi) fun ho => (hxi i hi).2 (List.mem_append_left _ ho), trivial⟩
    have := (List.nodup_append.1 h.nd).2.2 i ho i (List.mem_flatMap.2 ⟨v, hv, hi⟩)
    exact this rfl
  · have hnd := List.nodup_append.1 h.nd
    have hxn : (idA x).Nodup := idA_nodup x
    have hon : (idA o').Nodup := idA_nodup o'
    rw [List.flatMap_append, List.nodup_append]
    refine ⟨hon, List.nodup_append.2 ⟨hnd.2.1, by simpa using hxn, fun i hi j hj e => ?_⟩, fun i hi j hj e => ?_⟩
    · subst e
      simp only [List.flatMap_cons, List.flatMap_nil, List.append_nil] at hj
      exact (hxi i hj).2 (List.mem_append_right _ hi)
    · subst e
      have hlt : i < H.n := by
        rcases List.mem_append.1 hj with hj | hj
        · exact rows_lt h.rows i hj
        · exact hx.lt i (by simpa using hj)
      rcases h7 i hi with ho | ho
      · rcases List.mem_append.1 hj with hj | hj
        · exact hnd.2.2 i ho i hj rfl
        · exact (hxi i (by simpa using hj)).2 (List.mem_append_left _ ho)
      · omega
  · intro i hi
    rcases List.mem_append.1 hi with hi | hi
    · rcases h7 i hi with ho | ho
      · exact h.ge i (List.mem_append_left _ ho)
      · omega
    · rw [List.flatMap_append] at hi
      rcases List.mem_append.1 hi with hi | hi
      · exact h.ge i (List.mem_append_right _ hi)
      · exact (hxi i (by simpa using hi)).1
theorem RowsH.nil {H : AH} {n0 : Nat} : RowsH H n0 .ns [] [] := ⟨.nil, trivial, by simp [idA], fun i hi => by simp [idA] at hi⟩
def CutPost (H : AH) (r : List (List UInt8) × List UInt8 × Bool) (v : AV) (H' : AH) : Prop := ∃ o els v1, v = .tp [o, v1, .b r.2.2] ∧ RowsH H' H.n o els r.1 ∧ Mb H' v1 r.2.1 ∧ (∀ i, i ∈ idA v1 → H.n ≤ i ∧ ¬ i ∈ idA o ++ els.flatMap idA) ∧ Ext H H'
theorem Mb.new {H : AH} {l : List UInt8} : Mb (H.new (.arr true 0 1 (encB l))) (.sl H.n 0 l.length) l := by
  have := Mn.own (H := H.new (.arr true 0 1 (encB l))) (z := 1) (by simp) new_at
  rwa [enc_len] at this
/-- A literal of one element. -/
theorem lit_src {t g : Nat} {x : AV} {L : List Lv} {H : AH} : srcV ⟨⟨t, g, 0, [x]⟩ :: L, g + 1, H⟩ (.ll t g 1 1) = [x] ∧ srcC ⟨⟨t, g, 0, [x]⟩ :: L, g + 1, H⟩ 1 (.ll t g 1 1) := by
  simp [srcV, srcC, Mem.getL, Mem.hasL, lookL]
section
variable {C : Tab}
theorem r_spec_CutFrames {a b : AV} {la lb : List UInt8} {H : AH} (hC : T_l02Num C n_spec_l02Num) (ha : Byt H a la) (hb : Byt H b lb) : Runs C c_spec_CutFrames [a, b] H (CutPost H (cutR la lb)) := by
  unfold Runs c_spec_CutFrames
  obtain ⟨h1, h2⟩ := Byt.len ha
  obtain ⟨h3, h4⟩ := Byt.len hb
  by_cases hA : (65537 : Int) < la.length
  · simp only [x_q, x_o, x_b, x_k, x_x, x_r, x_i, x_p, doPs, cfC, lgPut, isOk, rv, rh, Bool.false_eq_true, doOs, okO, vlO, mmO, dsO, putE, args, evT, evs, evO, look, kOps, kSeq, kBlk, keepE, reduceIte, Nat.reduceEqDiff, binC, binV, intC, intV, strC, strV, unC, unV, AV.isI, AV.isB, AV.isS, AV.toI, AV.toK, AV.toS, allOut, o_b, o_i, o_s, o_np, o_pv, o_pe, o_ns, o_sl, o_nm, o_mp, o_nf, o_fn, o_ag, q_b, q_i, q_s, q_np, q_pv, q_pe, q_ns, q_sl, q_nm, q_mp, q_nf, q_fn, q_ag, Bool.and_true, Bool.and_self, Bool.true_and, AV.b.injEq, decide_eq_true_eq, decide_eq_false_iff_not, true_and, and_true, and_self, decide_true, decide_false, eq_self, true_implies, false_implies, forall_const, Bool.true_eq_false, Bool.not_true, Bool.not_false, not_true_eq_false, not_false_eq_true, if_true, if_false, pickV, cond_true, cond_false, boolV, fillEC, fillE, List.replicate, List.set, Mem.newL, Mem.keep, Int.reduceToNat, Nat.reduceSub, List.drop_zero, Int.reduceLE, Int.le_refl, Nat.sub_zero, Mem.newL, h1, h2, hA, endK, rsC, rsV, resV]
    rw [cutR, if_pos (by omega)]
    exact ⟨.ns, [], .ns, rfl, .nil, .nil, by simp [idA], .refl _⟩
  · by_cases hB : (400000 : Int) < lb.length
    · simp only [x_q, x_o, x_b, x_k, x_x, x_r, x_i, x_p, doPs, cfC, lgPut, isOk, rv, rh, Bool.false_eq_true, doOs, okO, vlO, mmO, dsO, putE, args, evT, evs, evO, look, kOps, kSeq, kBlk, keepE, reduceIte, Nat.reduceEqDiff, binC, binV, intC, intV, strC, strV, unC, unV, AV.isI, AV.isB, AV.isS, AV.toI, AV.toK, AV.toS, allOut, o_b, o_i, o_s, o_np, o_pv, o_pe, o_ns, o_sl, o_nm, o_mp, o_nf, o_fn, o_ag, q_b, q_i, q_s, q_np, q_pv, q_pe, q_ns, q_sl, q_nm, q_mp, q_nf, q_fn, q_ag, Bool.and_true, Bool.and_self, Bool.true_and, AV.b.injEq, decide_eq_true_eq, decide_eq_false_iff_not, true_and, and_true, and_self, decide_true, decide_false, eq_self, true_implies, false_implies, forall_const, Bool.true_eq_false, Bool.not_true, Bool.not_false, not_true_eq_false, not_false_eq_true, if_true, if_false, pickV, cond_true, cond_false, boolV, fillEC, fillE, List.replicate, List.set, Mem.newL, Mem.keep, Int.reduceToNat, Nat.reduceSub, List.drop_zero, Int.reduceLE, Int.le_refl, Nat.sub_zero, Mem.newL, h1, h2, h3, h4, hA, hB, endK, rsC, rsV, resV]
      rw [cutR, if_pos (by omega)]
      exact ⟨.ns, [], .ns, rfl, .nil, .nil, by simp [idA], .refl _⟩
    · obtain ⟨c1, c2⟩ := Byt.cbs ha
      obtain ⟨c3, c4⟩ := Byt.cbs hb
      simp only [x_q, x_o, x_b, x_k, x_x, x_r, x_i, x_p, doPs, cfC, lgPut, isOk, rv, rh, Bool.false_eq_true, doOs, okO, vlO, mmO, dsO, putE, args, evT, evs, evO, look, kOps, kSeq, kBlk, keepE, reduceIte, Nat.reduceEqDiff, binC, binV, intC, intV, strC, strV, unC, unV, AV.isI, AV.isB, AV.isS, AV.toI, AV.toK, AV.toS, allOut, o_b, o_i, o_s, o_np, o_pv, o_pe, o_ns, o_sl, o_nm, o_mp, o_nf, o_fn, o_ag, q_b, q_i, q_s, q_np, q_pv, q_pe, q_ns, q_sl, q_nm, q_mp, q_nf, q_fn, q_ag, Bool.and_true, Bool.and_self, Bool.true_and, AV.b.injEq, decide_eq_true_eq, decide_eq_false_iff_not, true_and, and_true, and_self, decide_true, decide_false, eq_self, true_implies, false_implies, forall_const, Bool.true_eq_false, Bool.not_true, Bool.not_false, not_true_eq_false, not_false_eq_true, if_true, if_false, pickV, cond_true, cond_false, boolV, fillEC, fillE, List.replicate, List.set, Mem.newL, Mem.keep, Int.reduceToNat, Nat.reduceSub, List.drop_zero, Int.reduceLE, Int.le_refl, Nat.sub_zero, Mem.newL, h1, h2, h3, h4, hA, hB, c1, c2, c3, c4]
      have hr : cutR la lb = cut (la ++ lb) := by rw [cutR, if_neg (by omega)]
      rw [hr]
      refine ⟨by omega, exec_loop (fun n e M => ∃ s acc els o L g H', n = s.length ∧ look e 7 = .s s ∧ look e 8 = o ∧ M = ⟨L, g, H'⟩ ∧ RowsH H' H.n o els acc ∧ Ext H H' ∧ acc.length + s.length ≤ 465537 ∧ cut (la ++ lb) = (acc ++ (cut s).1, (cut s).2)) ?_ (n := (la ++ lb).length) ?_⟩
      · rintro n e M ⟨s, acc, els, o, L, g, H', rfl, q7, q8, rfl, hro, hex, hle, hcut⟩
        have hels := hro.rows.len
        simp only [x_q, x_o, x_b, x_k, x_x, x_r, x_i, x_p, doPs, cfC, lgPut, isOk, rv, rh, Bool.false_eq_true, doOs, okO, vlO, mmO, dsO, putE, args, evT, evs, evO, look, kOps, kSeq, kBlk, keepE, reduceIte, Nat.reduceEqDiff, binC, binV, intC, intV, strC, strV, unC, unV, AV.isI, AV.isB, AV.isS, AV.toI, AV.toK, AV.toS, allOut, o_b, o_i, o_s, o_np, o_pv, o_pe, o_ns, o_sl, o_nm, o_mp, o_nf, o_fn, o_ag, q_b, q_i, q_s, q_np, q_pv, q_pe, q_ns, q_sl, q_nm, q_mp, q_nf, q_fn, q_ag, Bool.and_true, Bool.and_self, Bool.true_and, AV.b.injEq, decide_eq_true_eq, decide_eq_false_iff_not, true_and, and_true, and_self, decide_true, decide_false, eq_self, true_implies, false_implies, forall_const, Bool.true_eq_false, Bool.not_true, Bool.not_false, not_true_eq_false, not_false_eq_true, if_true, if_false, pickV, cond_true, cond_false, boolV, fillEC, fillE, List.replicate, List.set, Mem.newL, Mem.keep, Int.reduceToNat, Nat.reduceSub, List.drop_zero, Int.reduceLE, Int.le_refl, Nat.sub_zero, Mem.newL, q7, q8]
        by_cases hs2 : s.length < 2
        · have e1 : ¬ (2 : Int) ≤ s.length := by omega
          have hc : cut s = ([], s, false) := by rw [cut, dif_pos hs2]
          rw [hc, List.append_nil] at hcut
          simp only [x_q, x_o, x_b, x_k, x_x, x_r, x_i, x_p, doPs, cfC, lgPut, isOk, rv, rh, Bool.false_eq_true, doOs, okO, vlO, mmO, dsO, putE, args, evT, evs, evO, look, kOps, kSeq, kBlk, keepE, reduceIte, Nat.reduceEqDiff, binC, binV, intC, intV, strC, strV, unC, unV, AV.isI, AV.isB, AV.isS, AV.toI, AV.toK, AV.toS, allOut, o_b, o_i, o_s, o_np, o_pv, o_pe, o_ns, o_sl, o_nm, o_mp, o_nf, o_fn, o_ag, q_b, q_i, q_s, q_np, q_pv, q_pe, q_ns, q_sl, q_nm, q_mp, q_nf, q_fn, q_ag, Bool.and_true, Bool.and_self, Bool.true_and, AV.b.injEq, decide_eq_true_eq, decide_eq_false_iff_not, true_and, and_true, and_self, decide_true, decide_false, eq_self, true_implies, false_implies, forall_const, Bool.true_eq_false, Bool.not_true, Bool.not_false, not_true_eq_false, not_false_eq_true, if_true, if_false, pickV, cond_true, cond_false, boolV, fillEC, fillE, List.replicate, List.set, Mem.newL, Mem.keep, Int.reduceToNat, Nat.reduceSub, List.drop_zero, Int.reduceLE, Int.le_refl, Nat.sub_zero, Mem.newL, q7, q8, e1, endK, rsC, rsV, resV, toNat_nat]
          have hro' := hro.ext (Ext.new H' (.arr true 0 1 (encB s)))
          refine ⟨by simp [hro.own.sl.out], ?_⟩
          rw [hcut]
          refine ⟨o, els, _, rfl, hro', Mb.new, fun i hi => ?_, hex.trans (Ext.new _ _)⟩
          simp only [idA, List.mem_singleton] at hi
          subst hi
          exact ⟨hex.n, fun hm => by have := hro.lt _ hm; omega⟩
        · have e1 : (2 : Int) ≤ s.length := by omega
          have hm : num (s.take 2) 0 < 65536 := by
            have := num_lt (s.take 2) 0 0 (by simp)
            have h2 : (s.take 2).length = 2 := by simp; omega
            rw [h2] at this
            simpa using this
          have hcall := hC (s.take 2) H' (by simp; omega)
          have hc := hcut
          rw [cut_ge hs2] at hc
          generalize num (s.take 2) 0 = m at hm hcall hc
          have hw : IntKind.i64.wrap ((m : Int) + 2) = (m : Int) + 2 := w64 (by omega) (by omega)
          have hw2 : ((m : Int) + 2).toNat = m + 2 := by omega
          by_cases hm0 : (m : Int) = 0
          · simp only [x_q, x_o, x_b, x_k, x_x, x_r, x_i, x_p, doPs, cfC, lgPut, isOk, rv, rh, Bool.false_eq_true, doOs, okO, vlO, mmO, dsO, putE, args, evT, evs, evO, look, kOps, kSeq, kBlk, keepE, reduceIte, Nat.reduceEqDiff, binC, binV, intC, intV, strC, strV, unC, unV, AV.isI, AV.isB, AV.isS, AV.toI, AV.toK, AV.toS, allOut, o_b, o_i, o_s, o_np, o_pv, o_pe, o_ns, o_sl, o_nm, o_mp, o_nf, o_fn, o_ag, q_b, q_i, q_s, q_np, q_pv, q_pe, q_ns, q_sl, q_nm, q_mp, q_nf, q_fn, q_ag, Bool.and_true, Bool.and_self, Bool.true_and, AV.b.injEq, decide_eq_true_eq, decide_eq_false_iff_not, true_and, and_true, and_self, decide_true, decide_false, eq_self, true_implies, false_implies, forall_const, Bool.true_eq_false, Bool.not_true, Bool.not_false, not_true_eq_false, not_false_eq_true, if_true, if_false, pickV, cond_true, cond_false, boolV, fillEC, fillE, List.replicate, List.set, Mem.newL, Mem.keep, Int.reduceToNat, Nat.reduceSub, List.drop_zero, Int.reduceLE, Int.le_refl, Nat.sub_zero, Mem.newL, q7, q8, e1, toNat_nat, hcall, hm0, hw]
            have hm0' : m = 0 := by omega
            rw [if_pos hm0', List.append_nil] at hc
            simp only [endK, rsC, rsV, resV, x_q, x_o, x_b, x_k, x_x, x_r, x_i, x_p, doPs, cfC, lgPut, isOk, rv, rh, Bool.false_eq_true, doOs, okO, vlO, mmO, dsO, putE, args, evT, evs, evO, look, kOps, kSeq, kBlk, keepE, reduceIte, Nat.reduceEqDiff, binC, binV, intC, intV, strC, strV, unC, unV, AV.isI, AV.isB, AV.isS, AV.toI, AV.toK, AV.toS, allOut, o_b, o_i, o_s, o_np, o_pv, o_pe, o_ns, o_sl, o_nm, o_mp, o_nf, o_fn, o_ag, q_b, q_i, q_s, q_np, q_pv, q_pe, q_ns, q_sl, q_nm, q_mp, q_nf, q_fn, q_ag, Bool.and_true, Bool.and_self, Bool.true_and, AV.b.injEq, decide_eq_true_eq, decide_eq_false_iff_not, true_and, and_true, and_self, decide_true, decide_false, eq_self, true_implies, false_implies, forall_const, Bool.true_eq_false, Bool.not_true, Bool.not_false, not_true_eq_false, not_false_eq_true, if_true, if_false, pickV, cond_true, cond_false, boolV, fillEC, fillE, List.replicate, List.set, Mem.newL, Mem.keep, Int.reduceToNat, Nat.reduceSub, List.drop_zero, Int.reduceLE, Int.le_refl, Nat.sub_zero, Mem.newL]
            refine ⟨hro.own.sl.out, ?_⟩
            rw [hc]
            exact ⟨o, els, _, rfl, hro, .nil, by simp [idA], hex⟩
          · by_cases hsm : (s.length : Int) < (m : Int) + 2
            · simp only [x_q, x_o, x_b, x_k, x_x, x_r, x_i, x_p, doPs, cfC, lgPut, isOk, rv, rh, Bool.false_eq_true, doOs, okO, vlO, mmO, dsO, putE, args, evT, evs, evO, look, kOps, kSeq, kBlk, keepE, reduceIte, Nat.reduceEqDiff, binC, binV, intC, intV, strC, strV, unC, unV, AV.isI, AV.isB, AV.isS, AV.toI, AV.toK, AV.toS, allOut, o_b, o_i, o_s, o_np, o_pv, o_pe, o_ns, o_sl, o_nm, o_mp, o_nf, o_fn, o_ag, q_b, q_i, q_s, q_np, q_pv, q_pe, q_ns, q_sl, q_nm, q_mp, q_nf, q_fn, q_ag, Bool.and_true, Bool.and_self, Bool.true_and, AV.b.injEq, decide_eq_true_eq, decide_eq_false_iff_not, true_and, and_true, and_self, decide_true, decide_false, eq_self, true_implies, false_implies, forall_const, Bool.true_eq_false, Bool.not_true, Bool.not_false, not_true_eq_false, not_false_eq_true, if_true, if_false, pickV, cond_true, cond_false, boolV, fillEC, fillE, List.replicate, List.set, Mem.newL, Mem.keep, Int.reduceToNat, Nat.reduceSub, List.drop_zero, Int.reduceLE, Int.le_refl, Nat.sub_zero, Mem.newL, q7, q8, e1, toNat_nat, hcall, hm0, hw, hsm]
              rw [if_neg (by omega), if_pos (by omega), List.append_nil] at hc
              simp only [endK, rsC, rsV, resV, x_q, x_o, x_b, x_k, x_x, x_r, x_i, x_p, doPs, cfC, lgPut, isOk, rv, rh, Bool.false_eq_true, doOs, okO, vlO, mmO, dsO, putE, args, evT, evs, evO, look, kOps, kSeq, kBlk, keepE, reduceIte, Nat.reduceEqDiff, binC, binV, intC, intV, strC, strV, unC, unV, AV.isI, AV.isB, AV.isS, AV.toI, AV.toK, AV.toS, allOut, o_b, o_i, o_s, o_np, o_pv, o_pe, o_ns, o_sl, o_nm, o_mp, o_nf, o_fn, o_ag, q_b, q_i, q_s, q_np, q_pv, q_pe, q_ns, q_sl, q_nm, q_mp, q_nf, q_fn, q_ag, Bool.and_true, Bool.and_self, Bool.true_and, AV.b.injEq, decide_eq_true_eq, decide_eq_false_iff_not, true_and, and_true, and_self, decide_true, decide_false, eq_self, true_implies, false_implies, forall_const, Bool.true_eq_false, Bool.not_true, Bool.not_false, not_true_eq_false, not_false_eq_true, if_true, if_false, pickV, cond_true, cond_false, boolV, fillEC, fillE, List.replicate, List.set, Mem.newL, Mem.keep, Int.reduceToNat, Nat.reduceSub, List.drop_zero, Int.reduceLE, Int.le_refl, Nat.sub_zero, Mem.newL]
              refine ⟨hro.own.sl.out, ?_⟩
              rw [hc]
              refine ⟨o, els, _, rfl, hro.ext (Ext.new _ _), Mb.new, fun i hi => ?_, hex.trans (Ext.new _ _)⟩
              simp only [idA, List.mem_singleton] at hi
              subst hi
              exact ⟨hex.n, fun hm => by have := hro.lt _ hm; omega⟩
            · simp only [x_q, x_o, x_b, x_k, x_x, x_r, x_i, x_p, doPs, cfC, lgPut, isOk, rv, rh, Bool.false_eq_true, doOs, okO, vlO, mmO, dsO, putE, args, evT, evs, evO, look, kOps, kSeq, kBlk, keepE, reduceIte, Nat.reduceEqDiff, binC, binV, intC, intV, strC, strV, unC, unV, AV.isI, AV.isB, AV.isS, AV.toI, AV.toK, AV.toS, allOut, o_b, o_i, o_s, o_np, o_pv, o_pe, o_ns, o_sl, o_nm, o_mp, o_nf, o_fn, o_ag, q_b, q_i, q_s, q_np, q_pv, q_pe, q_ns, q_sl, q_nm, q_mp, q_nf, q_fn, q_ag, Bool.and_true, Bool.and_self, Bool.true_and, AV.b.injEq, decide_eq_true_eq, decide_eq_false_iff_not, true_and, and_true, and_self, decide_true, decide_false, eq_self, true_implies, false_implies, forall_const, Bool.true_eq_false, Bool.not_true, Bool.not_false, not_true_eq_false, not_false_eq_true, if_true, if_false, pickV, cond_true, cond_false, boolV, fillEC, fillE, List.replicate, List.set, Mem.newL, Mem.keep, Int.reduceToNat, Nat.reduceSub, List.drop_zero, Int.reduceLE, Int.le_refl, Nat.sub_zero, Mem.newL, q7, q8, e1, toNat_nat, hcall, hm0, hw, hsm, hw2]
              rw [if_neg (by omega), if_neg (by omega)] at hc
              rw [show m + 2 - 2 = m by omega]
              have hfl : ((s.drop 2).take m).length = m := by simp; omega
              obtain ⟨p1, o', H2, p2, p3, p4, p5, p6, -⟩ := (hro.ext (Ext.new H' (.arr true 0 1 (encB ((s.drop 2).take m))))).push (by' := 24) (L := ⟨44, g, 0, [.sl H'.n 0 ((s.drop 2).take m).length]⟩ :: dropL (keepL [7, 8] L) 44) (g := g + 1) (Mb.new (H := H') (l := (s.drop 2).take m))
                (fun i hi => by
                  simp only [idA, List.mem_singleton] at hi
                  subst hi
                  exact ⟨hex.n, fun hm => by have := hro.lt _ hm; omega⟩) (by have := hex.n; simp; omega) lit_src (by omega)
              refine ⟨⟨by omega, by omega⟩, ⟨rfl, by omega⟩, p1, ⟨by omega, by omega⟩, s.length - (m + 2), by omega, s.drop (m + 2), acc ++ [(s.drop 2).take m], els ++ [.sl H'.n 0 ((s.drop 2).take m).length], o', _, _, H2, by simp, ?_, p2, p3, p4, ?_, ?_, ?_⟩
              · rw [List.take_of_length_le (by simp)]
              · exact (hex.trans (Ext.new _ _)).put (l := idA o) (fun i hi => hro.ge i (List.mem_append_left _ hi)) p5 p6
              · simp; omega
              · rw [hc]; simp
      · refine ⟨la ++ lb, [], [], .sl H.n 0 0, _, _, _, rfl, rfl, rfl, rfl, ⟨?_, trivial, by simp [idA], by simp [idA]⟩, .new _ _, by simp; omega, by simp⟩
        exact Mn.own (xs := []) (by simp) new_at
theorem r_impl_CutFrames {a b : AV} {la lb : List UInt8} {H : AH} (ha : Byt H a la) (hb : Byt H b lb) : Runs C c_impl_CutFrames [a, b] H (CutPost H (cutR la lb)) := by
  unfold Runs c_impl_CutFrames
  obtain ⟨h1, h2⟩ := Byt.len ha
  obtain ⟨h3, h4⟩ := Byt.len hb
  by_cases hA : (65537 : Int) < la.length
  · simp only [x_q, x_o, x_b, x_k, x_x, x_r, x_i, x_p, doPs, cfC, lgPut, isOk, rv, rh, Bool.false_eq_true, doOs, okO, vlO, mmO, dsO, putE, args, evT, evs, evO, look, kOps, kSeq, kBlk, keepE, reduceIte, Nat.reduceEqDiff, binC, binV, intC, intV, strC, strV, unC, unV, AV.isI, AV.isB, AV.isS, AV.toI, AV.toK, AV.toS, allOut, o_b, o_i, o_s, o_np, o_pv, o_pe, o_ns, o_sl, o_nm, o_mp, o_nf, o_fn, o_ag, q_b, q_i, q_s, q_np, q_pv, q_pe, q_ns, q_sl, q_nm, q_mp, q_nf, q_fn, q_ag, Bool.and_true, Bool.and_self, Bool.true_and, AV.b.injEq, decide_eq_true_eq, decide_eq_false_iff_not, true_and, and_true, and_self, decide_true, decide_false, eq_self, true_implies, false_implies, forall_const, Bool.true_eq_false, Bool.not_true, Bool.not_false, not_true_eq_false, not_false_eq_true, if_true, if_false, pickV, cond_true, cond_false, boolV, fillEC, fillE, List.replicate, List.set, Mem.newL, Mem.keep, Int.reduceToNat, Nat.reduceSub, List.drop_zero, Int.reduceLE, Int.le_refl, Nat.sub_zero, Mem.newL, h1, h2, hA, endK, rsC, rsV, resV]
    rw [cutR, if_pos (by omega)]
    exact ⟨.ns, [], .ns, rfl, .nil, .nil, by simp [idA], .refl _⟩
  · by_cases hB : (400000 : Int) < lb.length
    · simp only [x_q, x_o, x_b, x_k, x_x, x_r, x_i, x_p, doPs, cfC, lgPut, isOk, rv, rh, Bool.false_eq_true, doOs, okO, vlO, mmO, dsO, putE, args, evT, evs, evO, look, kOps, kSeq, kBlk, keepE, reduceIte, Nat.reduceEqDiff, binC, binV, intC, intV, strC, strV, unC, unV, AV.isI, AV.isB, AV.isS, AV.toI, AV.toK, AV.toS, allOut, o_b, o_i, o_s, o_np, o_pv, o_pe, o_ns, o_sl, o_nm, o_mp, o_nf, o_fn, o_ag, q_b, q_i, q_s, q_np, q_pv, q_pe, q_ns, q_sl, q_nm, q_mp, q_nf, q_fn, q_ag, Bool.and_true, Bool.and_self, Bool.true_and, AV.b.injEq, decide_eq_true_eq, decide_eq_false_iff_not, true_and, and_true, and_self, decide_true, decide_false, eq_self, true_implies, false_implies, forall_const, Bool.true_eq_false, Bool.not_true, Bool.not_false, not_true_eq_false, not_false_eq_true, if_true, if_false, pickV, cond_true, cond_false, boolV, fillEC, fillE, List.replicate, List.set, Mem.newL, Mem.keep, Int.reduceToNat, Nat.reduceSub, List.drop_zero, Int.reduceLE, Int.le_refl, Nat.sub_zero, Mem.newL, h1, h2, h3, h4, hA, hB, endK, rsC, rsV, resV]
      rw [cutR, if_pos (by omega)]
      exact ⟨.ns, [], .ns, rfl, .nil, .nil, by simp [idA], .refl _⟩
    · have hr : cutR la lb = cut (la ++ lb) := by rw [cutR, if_neg (by omega)]
      rw [hr]
      have m0 : Mb (H.new (.arr true 0 1 [])) (.sl H.n 0 0) [] := Mn.own (xs := []) (by simp) new_at
      have k0 : Cl (H.new (.arr true 0 1 [])) (.sl H.n 0 0) := fun i hi rw st z xs he => by
        simp only [idA, List.mem_singleton] at hi
        subst hi
        rw [new_at] at he
        cases he; decide
      have e0 := Ext.new H (.arr true 0 1 [])
      obtain ⟨p1, a1, H1, p2, p3, p4, p5, p6, p7, p8, p9⟩ := Mn.ap (by' := 1) m0 (Sl.src (ha.ext e0) [] 0) (by simp; omega)
      have e1 : Ext H H1 := e0.put (l := [H.n]) (by simp) p5 p6
      obtain ⟨q1, a2, H2, q2, q3, q4, q5, q6, q7, q8, q9⟩ := Mn.ap (by' := 1) p4 (Sl.src (hb.ext e1) [] 0) (by simp; omega)
      have i1 : ∀ i, i ∈ idA a1 → H.n ≤ i := fun i hi => by
        rcases p7 i hi with h | h
        · simp only [idA, List.mem_singleton] at h; omega
        · simp at h; omega
      have i2 : ∀ i, i ∈ idA a2 → H.n ≤ i := fun i hi => by
        rcases q7 i hi with h | h
        · exact i1 i h
        · have := e1.n; omega
      have e2 : Ext H H2 := e1.put i1 q5 q6
      have hs0 : Byt H2 a2 (la ++ lb) := by
        have := q4.sl
        rw [← enc_app, ← enc_app, List.nil_append] at this
        exact this
      simp only [x_q, x_o, x_b, x_k, x_x, x_r, x_i, x_p, doPs, cfC, lgPut, isOk, rv, rh, Bool.false_eq_true, doOs, okO, vlO, mmO, dsO, putE, args, evT, evs, evO, look, kOps, kSeq, kBlk, keepE, reduceIte, Nat.reduceEqDiff, binC, binV, intC, intV, strC, strV, unC, unV, AV.isI, AV.isB, AV.isS, AV.toI, AV.toK, AV.toS, allOut, o_b, o_i, o_s, o_np, o_pv, o_pe, o_ns, o_sl, o_nm, o_mp, o_nf, o_fn, o_ag, q_b, q_i, q_s, q_np, q_pv, q_pe, q_ns, q_sl, q_nm, q_mp, q_nf, q_fn, q_ag, Bool.and_true, Bool.and_self, Bool.true_and, AV.b.injEq, decide_eq_true_eq, decide_eq_false_iff_not, true_and, and_true, and_self, decide_true, decide_false, eq_self, true_implies, false_implies, forall_const, Bool.true_eq_false, Bool.not_true, Bool.not_false, not_true_eq_false, not_false_eq_true, if_true, if_false, pickV, cond_true, cond_false, boolV, fillEC, fillE, List.replicate, List.set, Mem.newL, Mem.keep, Int.reduceToNat, Nat.reduceSub, List.drop_zero, Int.reduceLE, Int.le_refl, Nat.sub_zero, Mem.newL, h1, h2, h3, h4, hA, hB, p1, p2, p3, q1, q2, q3]
      refine exec_loop (fun n e M => ∃ bv s acc els o L g H', n = s.length ∧ look e 7 = bv ∧ look e 8 = o ∧ M = ⟨L, g, H'⟩ ∧ Byt H' bv s ∧ Cl H' bv ∧ (∀ i, i ∈ idA bv → H.n ≤ i ∧ ¬ i ∈ idA o ++ els.flatMap idA) ∧ RowsH H' H.n o els acc ∧ Ext H H' ∧ acc.length + s.length ≤ 465537 ∧ cut (la ++ lb) = (acc ++ (cut s).1, (cut s).2)) ?_ (n := (la ++ lb).length)
        ⟨a2, la ++ lb, [], [], .ns, _, _, _, rfl, rfl, rfl, rfl, hs0, q9 (p9 k0), fun i hi => ⟨i2 i hi, by simp [idA]⟩, .nil, e2, by simp; omega, by simp⟩
      rintro n e M ⟨bv, s, acc, els, o, L, g, H', rfl, q7, q8, rfl, hb', hcl, hid, hro, hex, hle, hcut⟩
      have hels := hro.rows.len
      obtain ⟨g1, g2⟩ := Byt.len hb'
      -- a copy of a part, at the heap's end
      have copy : ∀ (y : AV) (t : List UInt8) (L : List Lv) (g : Nat), Byt H' y t → t.length ≤ 465537 → apC ⟨L, g, H'.new (.arr true 0 1 [])⟩ 1 1 y (.sl H'.n 0 0) ∧ ∃ a' H2, apV ⟨L, g, H'.new (.arr true 0 1 [])⟩ y (.sl H'.n 0 0) = a' ∧ apM ⟨L, g, H'.new (.arr true 0 1 [])⟩ 1 y (.sl H'.n 0 0) = ⟨L, g, H2⟩ ∧ Mb H2 a' t ∧ Ext H' H2 ∧ ∀ i, i ∈ idA a' → H'.n ≤ i := by
        intro y t L g hy ht
        have m0 : Mb (H'.new (.arr true 0 1 [])) (.sl H'.n 0 0) [] := Mn.own (xs := []) (by simp) new_at
        obtain ⟨p1, a1, H1, p2, p3, p4, p5, p6, p7, p8, p9⟩ := Mn.ap (by' := 1) m0 (Sl.src (hy.ext (Ext.new H' (.arr true 0 1 []))) L g) (by simp; omega)
        refine ⟨p1, a1, H1, p2, p3, p4, (Ext.new H' _).put (l := [H'.n]) (by simp) p5 p6, fun i hi => ?_⟩
        rcases p7 i hi with h | h
        · simp only [idA, List.mem_singleton] at h; omega
        · simp at h; omega
      simp only [x_q, x_o, x_b, x_k, x_x, x_r, x_i, x_p, doPs, cfC, lgPut, isOk, rv, rh, Bool.false_eq_true, doOs, okO, vlO, mmO, dsO, putE, args, evT, evs, evO, look, kOps, kSeq, kBlk, keepE, reduceIte, Nat.reduceEqDiff, binC, binV, intC, intV, strC, strV, unC, unV, AV.isI, AV.isB, AV.isS, AV.toI, AV.toK, AV.toS, allOut, o_b, o_i, o_s, o_np, o_pv, o_pe, o_ns, o_sl, o_nm, o_mp, o_nf, o_fn, o_ag, q_b, q_i, q_s, q_np, q_pv, q_pe, q_ns, q_sl, q_nm, q_mp, q_nf, q_fn, q_ag, Bool.and_true, Bool.and_self, Bool.true_and, AV.b.injEq, decide_eq_true_eq, decide_eq_false_iff_not, true_and, and_true, and_self, decide_true, decide_false, eq_self, true_implies, false_implies, forall_const, Bool.true_eq_false, Bool.not_true, Bool.not_false, not_true_eq_false, not_false_eq_true, if_true, if_false, pickV, cond_true, cond_false, boolV, fillEC, fillE, List.replicate, List.set, Mem.newL, Mem.keep, Int.reduceToNat, Nat.reduceSub, List.drop_zero, Int.reduceLE, Int.le_refl, Nat.sub_zero, Mem.newL, q7, q8, g1, g2]
      by_cases hs2 : s.length < 2
      · have e1 : ¬ (2 : Int) ≤ s.length := by omega
        have hc : cut s = ([], s, false) := by rw [cut, dif_pos hs2]
        rw [hc, List.append_nil] at hcut
        obtain ⟨c1, a', H3, c2, c3, c4, c5, c6⟩ := copy bv s (keepL [7, 8] L) g hb' (by omega)
        simp only [x_q, x_o, x_b, x_k, x_x, x_r, x_i, x_p, doPs, cfC, lgPut, isOk, rv, rh, Bool.false_eq_true, doOs, okO, vlO, mmO, dsO, putE, args, evT, evs, evO, look, kOps, kSeq, kBlk, keepE, reduceIte, Nat.reduceEqDiff, binC, binV, intC, intV, strC, strV, unC, unV, AV.isI, AV.isB, AV.isS, AV.toI, AV.toK, AV.toS, allOut, o_b, o_i, o_s, o_np, o_pv, o_pe, o_ns, o_sl, o_nm, o_mp, o_nf, o_fn, o_ag, q_b, q_i, q_s, q_np, q_pv, q_pe, q_ns, q_sl, q_nm, q_mp, q_nf, q_fn, q_ag, Bool.and_true, Bool.and_self, Bool.true_and, AV.b.injEq, decide_eq_true_eq, decide_eq_false_iff_not, true_and, and_true, and_self, decide_true, decide_false, eq_self, true_implies, false_implies, forall_const, Bool.true_eq_false, Bool.not_true, Bool.not_false, not_true_eq_false, not_false_eq_true, if_true, if_false, pickV, cond_true, cond_false, boolV, fillEC, fillE, List.replicate, List.set, Mem.newL, Mem.keep, Int.reduceToNat, Nat.reduceSub, List.drop_zero, Int.reduceLE, Int.le_refl, Nat.sub_zero, Mem.newL, q7, q8, e1, endK, rsC, rsV, resV, toNat_nat, c1, c2, c3]
        refine ⟨⟨hro.own.sl.out, c4.sl.out⟩, ?_⟩
        rw [hcut]
        refine ⟨o, els, a', rfl, hro.ext c5, c4, fun i hi => ⟨?_, fun hm => ?_⟩, hex.trans c5⟩
        · have := c6 i hi; have := hex.n; omega
        · have := hro.lt _ hm; have := c6 i hi; omega
      · have e1 : (2 : Int) ≤ s.length := by omega
        obtain ⟨b1, b2, b3, b4⟩ := Byt.ia hb' (j := 0) (by omega) (by omega) (keepL [7, 8] L) g
        obtain ⟨d1, d2, d3, d4⟩ := Byt.ia hb' (j := 1) (by omega) (by omega) (keepL [7, 8] L) g
        have x0 := (s.getD 0 0).toNat_lt
        have x1 := (s.getD 1 0).toNat_lt
        have hnum : num (s.take 2) 0 = (s.getD 0 0).toNat * 256 + (s.getD 1 0).toNat := by
          cases s with
          | nil => simp at hs2
          | cons u0 s => cases s with
            | nil => simp at hs2
            | cons u1 s => simp [num]
        have hc := hcut
        rw [cut_ge hs2, hnum] at hc
        simp only [Int.reduceToNat] at b3 b4 d3 d4
        have v0 : IntKind.i64.wrap ((s.getD 0 0).toNat : Int) = (s.getD 0 0).toNat := w64 (by omega) (by omega)
        have v1 : IntKind.i64.wrap ((s.getD 1 0).toNat : Int) = (s.getD 1 0).toNat := w64 (by omega) (by omega)
        have v2 : IntKind.i64.wrap (((s.getD 0 0).toNat : Int) * 256) = ((s.getD 0 0).toNat : Int) * 256 := w64 (by omega) (by omega)
        have v3 : (2 : Int) ^ (min 8 IntKind.i64.bits) = 256 := by decide
        have hob := or_bytes (s.getD 0 0) (s.getD 1 0)
        have hm : (s.getD 0 0).toNat * 256 + (s.getD 1 0).toNat < 65536 := by omega
        obtain ⟨m, hmd⟩ : ∃ m, m = (s.getD 0 0).toNat * 256 + (s.getD 1 0).toNat := ⟨_, rfl⟩
        rw [← hmd] at hc hob hm
        have hw : IntKind.i64.wrap (2 + (m : Int)) = 2 + (m : Int) := w64 (by omega) (by omega)
        have hw2 : (2 + (m : Int)).toNat = m + 2 := by omega
        by_cases hm0 : (m : Int) = 0
        · simp only [x_q, x_o, x_b, x_k, x_x, x_r, x_i, x_p, doPs, cfC, lgPut, isOk, rv, rh, Bool.false_eq_true, doOs, okO, vlO, mmO, dsO, putE, args, evT, evs, evO, look, kOps, kSeq, kBlk, keepE, reduceIte, Nat.reduceEqDiff, binC, binV, intC, intV, strC, strV, unC, unV, AV.isI, AV.isB, AV.isS, AV.toI, AV.toK, AV.toS, allOut, o_b, o_i, o_s, o_np, o_pv, o_pe, o_ns, o_sl, o_nm, o_mp, o_nf, o_fn, o_ag, q_b, q_i, q_s, q_np, q_pv, q_pe, q_ns, q_sl, q_nm, q_mp, q_nf, q_fn, q_ag, Bool.and_true, Bool.and_self, Bool.true_and, AV.b.injEq, decide_eq_true_eq, decide_eq_false_iff_not, true_and, and_true, and_self, decide_true, decide_false, eq_self, true_implies, false_implies, forall_const, Bool.true_eq_false, Bool.not_true, Bool.not_false, not_true_eq_false, not_false_eq_true, if_true, if_false, pickV, cond_true, cond_false, boolV, fillEC, fillE, List.replicate, List.set, Mem.newL, Mem.keep, Int.reduceToNat, Nat.reduceSub, List.drop_zero, Int.reduceLE, Int.le_refl, Nat.sub_zero, Mem.newL, q7, q8, e1, b1, b2, b3, b4, d1, d2, d3, d4, v0, v1, v3, v2, hob, hm0]
          have hm0' : m = 0 := by omega
          rw [if_pos hm0', List.append_nil] at hc
          simp only [endK, rsC, rsV, resV, x_q, x_o, x_b, x_k, x_x, x_r, x_i, x_p, doPs, cfC, lgPut, isOk, rv, rh, Bool.false_eq_true, doOs, okO, vlO, mmO, dsO, putE, args, evT, evs, evO, look, kOps, kSeq, kBlk, keepE, reduceIte, Nat.reduceEqDiff, binC, binV, intC, intV, strC, strV, unC, unV, AV.isI, AV.isB, AV.isS, AV.toI, AV.toK, AV.toS, allOut, o_b, o_i, o_s, o_np, o_pv, o_pe, o_ns, o_sl, o_nm, o_mp, o_nf, o_fn, o_ag, q_b, q_i, q_s, q_np, q_pv, q_pe, q_ns, q_sl, q_nm, q_mp, q_nf, q_fn, q_ag, Bool.and_true, Bool.and_self, Bool.true_and, AV.b.injEq, decide_eq_true_eq, decide_eq_false_iff_not, true_and, and_true, and_self, decide_true, decide_false, eq_self, true_implies, false_implies, forall_const, Bool.true_eq_false, Bool.not_true, Bool.not_false, not_true_eq_false, not_false_eq_true, if_true, if_false, pickV, cond_true, cond_false, boolV, fillEC, fillE, List.replicate, List.set, Mem.newL, Mem.keep, Int.reduceToNat, Nat.reduceSub, List.drop_zero, Int.reduceLE, Int.le_refl, Nat.sub_zero, Mem.newL]
          refine ⟨hro.own.sl.out, ?_⟩
          rw [hc]
          exact ⟨o, els, _, rfl, hro, .nil, by simp [idA], hex⟩
        · by_cases hsm : (s.length : Int) < 2 + (m : Int)
          · obtain ⟨c1, a', H3, c2, c3, c4, c5, c6⟩ := copy bv s (keepL [7, 8] L) g hb' (by omega)
            simp only [x_q, x_o, x_b, x_k, x_x, x_r, x_i, x_p, doPs, cfC, lgPut, isOk, rv, rh, Bool.false_eq_true, doOs, okO, vlO, mmO, dsO, putE, args, evT, evs, evO, look, kOps, kSeq, kBlk, keepE, reduceIte, Nat.reduceEqDiff, binC, binV, intC, intV, strC, strV, unC, unV, AV.isI, AV.isB, AV.isS, AV.toI, AV.toK, AV.toS, allOut, o_b, o_i, o_s, o_np, o_pv, o_pe, o_ns, o_sl, o_nm, o_mp, o_nf, o_fn, o_ag, q_b, q_i, q_s, q_np, q_pv, q_pe, q_ns, q_sl, q_nm, q_mp, q_nf, q_fn, q_ag, Bool.and_true, Bool.and_self, Bool.true_and, AV.b.injEq, decide_eq_true_eq, decide_eq_false_iff_not, true_and, and_true, and_self, decide_true, decide_false, eq_self, true_implies, false_implies, forall_const, Bool.true_eq_false, Bool.not_true, Bool.not_false, not_true_eq_false, not_false_eq_true, if_true, if_false, pickV, cond_true, cond_false, boolV, fillEC, fillE, List.replicate, List.set, Mem.newL, Mem.keep, Int.reduceToNat, Nat.reduceSub, List.drop_zero, Int.reduceLE, Int.le_refl, Nat.sub_zero, Mem.newL, q7, q8, e1, b1, b2, b3, b4, d1, d2, d3, d4, v0, v1, v3, v2, hob, hm0, hw, hsm, c1, c2, c3]
            rw [if_neg (by omega), if_pos (by omega), List.append_nil] at hc
            simp only [endK, rsC, rsV, resV, x_q, x_o, x_b, x_k, x_x, x_r, x_i, x_p, doPs, cfC, lgPut, isOk, rv, rh, Bool.false_eq_true, doOs, okO, vlO, mmO, dsO, putE, args, evT, evs, evO, look, kOps, kSeq, kBlk, keepE, reduceIte, Nat.reduceEqDiff, binC, binV, intC, intV, strC, strV, unC, unV, AV.isI, AV.isB, AV.isS, AV.toI, AV.toK, AV.toS, allOut, o_b, o_i, o_s, o_np, o_pv, o_pe, o_ns, o_sl, o_nm, o_mp, o_nf, o_fn, o_ag, q_b, q_i, q_s, q_np, q_pv, q_pe, q_ns, q_sl, q_nm, q_mp, q_nf, q_fn, q_ag, Bool.and_true, Bool.and_self, Bool.true_and, AV.b.injEq, decide_eq_true_eq, decide_eq_false_iff_not, true_and, and_true, and_self, decide_true, decide_false, eq_self, true_implies, false_implies, forall_const, Bool.true_eq_false, Bool.not_true, Bool.not_false, not_true_eq_false, not_false_eq_true, if_true, if_false, pickV, cond_true, cond_false, boolV, fillEC, fillE, List.replicate, List.set, Mem.newL, Mem.keep, Int.reduceToNat, Nat.reduceSub, List.drop_zero, Int.reduceLE, Int.le_refl, Nat.sub_zero, Mem.newL]
            refine ⟨⟨hro.own.sl.out, c4.sl.out⟩, ?_⟩
            rw [hc]
            refine ⟨o, els, a', rfl, hro.ext c5, c4, fun i hi => ⟨?_, fun hm => ?_⟩, hex.trans c5⟩
            · have := c6 i hi; have := hex.n; omega
            · have := hro.lt _ hm; have := c6 i hi; omega
          · rw [if_neg (by omega), if_neg (by omega)] at hc
            have en := Ext.new H' (.arr true 0 1 [])
            obtain ⟨s1, s2, -⟩ := Sl.sub (hb'.ext en) (hcl.fr fun i hi => en.at' i (hb'.lt i hi)) (lo := 2) (hi := 2 + (m : Int)) (by omega) (by omega) (by rw [enc_len]; omega)
            obtain ⟨-, -, s3⟩ := Sl.sub hb' hcl (lo := 2) (hi := 2 + (m : Int)) (by omega) (by omega) (by rw [enc_len]; omega)
            rw [enc_drop, enc_take, hw2] at s3
            simp only [Int.reduceToNat] at s3
            rw [show m + 2 - 2 = m by omega] at s3
            have hfl : ((s.drop 2).take m).length = m := by simp; omega
            obtain ⟨c1, a', H3, c2, c3, c4, c5, c6⟩ := copy _ _ (keepL [7, 8] L) g s3 (by omega)
            obtain ⟨p1, o', H4, p2, p3, p4, p5, p6, p7⟩ := (hro.ext c5).push (by' := 24) (L := ⟨51, g, 0, [a']⟩ :: dropL (keepL [7, 8] L) 51) (g := g + 1) c4
              (fun i hi => ⟨by have := c6 i hi; have := hex.n; omega, fun hm => by have := hro.lt _ hm; have := c6 i hi; omega⟩) (by have := hex.n; have := c5.n; omega) lit_src (by omega)
            have hbo : ∀ i, i ∈ idA bv → H4.at' i = H'.at' i := fun i hi => by
              have h1 := hb'.lt i hi
              rw [p6 i (by have := c5.n; omega) fun ho => (hid i hi).2 (List.mem_append_left _ ho)]
              exact c5.at' i h1
            have hn4 : H'.n ≤ H4.n := by have := c5.n; omega
            obtain ⟨t1, t2, t3⟩ := Sl.sub (hb'.fr hn4 hbo) (hcl.fr hbo) (lo := 2 + (m : Int)) (hi := (s.length : Int)) (by omega) (by omega) (by rw [enc_len]; omega)
            rw [enc_drop, enc_take, hw2, toNat_nat, List.take_of_length_le (by simp)] at t3
            simp only [x_q, x_o, x_b, x_k, x_x, x_r, x_i, x_p, doPs, cfC, lgPut, isOk, rv, rh, Bool.false_eq_true, doOs, okO, vlO, mmO, dsO, putE, args, evT, evs, evO, look, kOps, kSeq, kBlk, keepE, reduceIte, Nat.reduceEqDiff, binC, binV, intC, intV, strC, strV, unC, unV, AV.isI, AV.isB, AV.isS, AV.toI, AV.toK, AV.toS, allOut, o_b, o_i, o_s, o_np, o_pv, o_pe, o_ns, o_sl, o_nm, o_mp, o_nf, o_fn, o_ag, q_b, q_i, q_s, q_np, q_pv, q_pe, q_ns, q_sl, q_nm, q_mp, q_nf, q_fn, q_ag, Bool.and_true, Bool.and_self, Bool.true_and, AV.b.injEq, decide_eq_true_eq, decide_eq_false_iff_not, true_and, and_true, and_self, decide_true, decide_false, eq_self, true_implies, false_implies, forall_const, Bool.true_eq_false, Bool.not_true, Bool.not_false, not_true_eq_false, not_false_eq_true, if_true, if_false, pickV, cond_true, cond_false, boolV, fillEC, fillE, List.replicate, List.set, Mem.newL, Mem.keep, Int.reduceToNat, Nat.reduceSub, List.drop_zero, Int.reduceLE, Int.le_refl, Nat.sub_zero, Mem.newL, q7, q8, e1, b1, b2, b3, b4, d1, d2, d3, d4, v0, v1, v3, v2, hob, hm0, hw, hsm, hw2, s1, s2, g1, g2, c1, c2, c3, c4.sl.one, c4.sl.out, p1, p2, p3, t1, t2, List.length_cons, List.length_nil]
            rw [toNat_nat]
            refine ⟨by omega, s.length - (m + 2), by omega, slV (m + 2) s.length bv, s.drop (m + 2), acc ++ [(s.drop 2).take m], els ++ [a'], o', _, _, H4, by simp, rfl, rfl, rfl, t3, ?_, ?_, p4, ?_, ?_, ?_⟩
            · intro i hi
              rw [idA_slV] at hi
              intro rw st z xs he
              rw [hbo i hi] at he
              exact hcl i hi rw st z xs he
            · intro i hi
              rw [idA_slV] at hi
              refine ⟨(hid i hi).1, fun hm => ?_⟩
              have hlt := hb'.lt i hi
              rcases List.mem_append.1 hm with hm | hm
              · rcases p7 i hm with ho | ho
                · exact (hid i hi).2 (List.mem_append_left _ ho)
                · have := c5.n; omega
              · rw [List.flatMap_append] at hm
                rcases List.mem_append.1 hm with hm | hm
                · exact (hid i hi).2 (List.mem_append_right _ hm)
                · have := c6 i (by simpa using hm); omega
            · exact (hex.trans c5).put (l := idA o) (fun i hi => hro.ge i (List.mem_append_left _ hi)) p5 p6
            · simp; omega
            · rw [hc]; simp
end
end Go.Vm
