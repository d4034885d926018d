import Derived.Test.YtfamnghjibckbaaDoorRt3
import Derived.Test.YtfamnghjibckbaaDoorRt7
import Derived.Test.YtfamnghjibckbaaDoorProg
import Derived.KernelRfl
import Derived.Test.YtfamnghjibckbaaDoorRt4
/- ReadEdns: the spec's run. -/
namespace Go.Vm
set_option linter.unusedVariables false
set_option linter.unusedSimpArgs false
theorem num2_lt (l : List UInt8) : num (l.take 2) 0 < 65536 := by
  have h := num_lt (l.take 2) 0 0 (by simp)
  have h2 : (l.take 2).length ≤ 2 := by simp; omega
  have h3 : 256 ^ (0 + (l.take 2).length) ≤ 256 ^ 2 := Nat.pow_le_pow_right (by decide) (by omega)
  have h4 : (256 : Nat) ^ 2 = 65536 := by decide
  omega
theorem lit_srcE {t g : Nat} {x : Opt} {L : List Lv} {H : AH} : srcV ⟨⟨t, g, 0, [.ag [.i .i64 x.1, .s x.2]]⟩ :: L, g + 1, H⟩ (.ll t g 2 1) = [eO.v x] ∧ srcC ⟨⟨t, g, 0, [.ag [.i .i64 x.1, .s x.2]]⟩ :: L, g + 1, H⟩ 2 (.ll t g 2 1) := by
  simp [srcV, srcC, Mem.getL, Mem.hasL, lookL, eO, Enc.v]
section
variable {C : Tab}
theorem r_l13Options {d : List UInt8} {H : AH} (hN : T_l02Num C n_spec_l02Num) (hd : d.length ≤ 1099511627776) : Runs C c_spec_l13Options [.s d] H (optR (opsD d) H) := by
  unfold Runs c_spec_l13Options
  simp -implicitDefEqProofs only [bU, reduceIte, Nat.reduceEqDiff, reduceCtorEq, implies_true, forall_const, eq_self, Nat.reduceAdd, Nat.reduceLT, bne_self_eq_false, bT, eq_self, true_implies, false_implies, forall_const, if_true, if_false, Int.reduceToNat, Nat.reduceSub, Int.reduceLE, fillEC, fillE, List.replicate]
  refine exec_loop (fun n e M => ∃ (s : List UInt8) (os : List Opt) (o : AV) (H' : AH) (L : List Lv) (g : Nat), n = s.length ∧ look e 0 = .s s ∧ look e 4 = o ∧ M = ⟨L, g, H'⟩ ∧ Mx H' eO o os ∧ Ext H H' ∧ (∀ i, i ∈ idA o → H.n ≤ i) ∧ os.length + s.length ≤ d.length ∧ opsD d = (opsD s).map fun q => os ++ q) ?_ (n := d.length)
    ⟨d, [], _, _, _, _, rfl, rfl, rfl, rfl, Mn.own (xs := []) (by simp) new_at, .new _ _, fun i hi => by simp [idA, look] at hi; omega, by simp, by simp⟩
  rintro n e M ⟨s, os, o, H', L, g, rfl, q0, q4, rfl, hm, he, hid, hl, hop⟩
  by_cases hs : s = []
  · subst hs
    rw [opsD_nil] at hop
    simp only [Option.map_some, List.append_nil] at hop
    have ho := hm.sl.out
    simp -implicitDefEqProofs only [bU, reduceIte, Nat.reduceEqDiff, reduceCtorEq, implies_true, forall_const, eq_self, Nat.reduceAdd, Nat.reduceLT, bne_self_eq_false, bT, eq_self, true_implies, false_implies, forall_const, if_true, if_false, Int.reduceToNat, Nat.reduceSub, Int.reduceLE, q0, q4, ho, hop, optR, endK, rsC, rsV, resV]
    exact ⟨o, rfl, hm, he, hid⟩
  · have hs0 : 0 < s.length := List.length_pos_iff.2 hs
    by_cases h4 : (s.length : Int) < 4
    · rw [opsD_bad hs (by omega)] at hop
      simp only [Option.map_none] at hop
      simp -implicitDefEqProofs only [bU, reduceIte, Nat.reduceEqDiff, reduceCtorEq, implies_true, forall_const, eq_self, Nat.reduceAdd, Nat.reduceLT, bne_self_eq_false, bT, eq_self, true_implies, false_implies, forall_const, if_true, if_false, Int.reduceToNat, Nat.reduceSub, Int.reduceLE, q0, q4, hs, h4, hop, optR, endK, rsC, rsV, resV]
      exact he
    · have c1 := hN ((s.drop 2).take 2) H' (by simp; omega)
      have c2 := hN (s.take 2) H' (by simp; omega)
      have hw : IntKind.i64.wrap ((s.length : Int) - 4) = (s.length : Int) - 4 := w64 (by omega) (by omega)
      have hlt := num2_lt (s.drop 2)
      have r2 : (2 : Int) ≤ 4 := by decide
      have r4 : (4 : Int) ≤ s.length := by omega
      have r0 : (2 : Int) ≤ s.length := by omega
      by_cases hb : (s.length : Int) - 4 < (num ((s.drop 2).take 2) 0 : Nat)
      · rw [opsD_bad hs (by omega)] at hop
        simp only [Option.map_none] at hop
        simp -implicitDefEqProofs only [bU, reduceIte, Nat.reduceEqDiff, reduceCtorEq, implies_true, forall_const, eq_self, Nat.reduceAdd, Nat.reduceLT, bne_self_eq_false, bT, eq_self, true_implies, false_implies, forall_const, if_true, if_false, Int.reduceToNat, Nat.reduceSub, Int.reduceLE, q0, q4, hs, h4, hw, r2, r4, Int.reduceToNat, Nat.reduceSub, Int.reduceLE, c1, hb, hop, optR, endK, rsC, rsV, resV]
        exact he
      · have hop' := opsD_ok hs (by omega)
        rw [hop', Option.map_map] at hop
        generalize hn : num ((s.drop 2).take 2) 0 = m at *
        have w4 : IntKind.i64.wrap (4 + (m : Int)) = ((4 + m : Nat) : Int) := by rw [w64 (by omega) (by omega)]; omega
        have r5 : (4 : Int) ≤ ((4 + m : Nat) : Int) := by omega
        have r6 : ((4 + m : Nat) : Int) ≤ s.length := by omega
        have r7 : (0 : Int) ≤ ((4 + m : Nat) : Int) := by omega
        have r8 : 4 + m - 4 = m := by omega
        have e1 : opt1 s = (((num (s.take 2) 0 : Nat) : Int), (s.drop 4).take m) := by rw [opt1, hn]
        obtain ⟨p1, o', H2, p2, p3, p4, p5, p6, p7, -⟩ := Mn.ap (z := 2) (by' := 24) hm (lit_srcE (t := 33) (g := g) (x := opt1 s) (L := dropL (keepL [0, 4] L) 33) (H := H')) (by simp; omega)
        rw [e1] at p1 p2 p3
        simp -implicitDefEqProofs only [bU, reduceIte, Nat.reduceEqDiff, reduceCtorEq, implies_true, forall_const, eq_self, Nat.reduceAdd, Nat.reduceLT, bne_self_eq_false, bT, eq_self, true_implies, false_implies, forall_const, if_true, if_false, Int.reduceToNat, Nat.reduceSub, Int.reduceLE, q0, q4, hs, h4, hw, r0, r2, r4, r5, r6, r7, r8, w4, Int.reduceToNat, Nat.reduceSub, Int.reduceLE, Int.le_refl, toNat_nat, List.drop_zero, Nat.sub_zero, c1, c2, hb, fillP, fillC, setPart, fillEC, fillE, List.replicate, List.set, List.take_zero, List.nil_append, List.cons_append, List.drop_succ_cons, List.take_succ_cons, List.append_nil, List.drop_nil, Nat.reduceLeDiff]
        simp -implicitDefEqProofs only [bU, reduceIte, Nat.reduceEqDiff, reduceCtorEq, implies_true, forall_const, eq_self, Nat.reduceAdd, Nat.reduceLT, bne_self_eq_false, p1, p2, p3]
        refine ⟨(s.drop (4 + m)).length, by simp; omega, s.drop (4 + m), os ++ [opt1 s], o', H2, _, _, rfl, by rw [List.take_of_length_le (by simp)], rfl, rfl, ?_, he.put hid p5 p6, fun i hi => ?_, by simp; omega, ?_⟩
        · have : Mn H2 2 o' (os.map eO.v ++ [eO.v (opt1 s)]) := p4
          unfold Mx
          rw [List.map_append]
          exact this
        · rcases p7 i hi with h | h
          · exact hid i h
          · have := he.n; omega
        · rw [hop]
          cases opsD (s.drop (4 + m)) <;> simp
/-- The first OPT record, found behind none. -/
theorem filt_first {xs : List Rr} {i : Nat} (hi : i < xs.length) (h0 : (xs.take i).filter isOpt = []) (ht : xs[i].t = 41) : xs.filter isOpt = xs[i] :: (xs.drop (i + 1)).filter isOpt := by
  have : xs = xs.take i ++ xs[i] :: xs.drop (i + 1) := by
    rw [← List.drop_eq_getElem_cons hi, List.take_append_drop]
  conv => lhs; rw [this]
  rw [List.filter_append, h0, List.nil_append, List.filter_cons, if_pos (by simp [isOpt, ht])]
theorem r_spec_ReadEdns {q a b c : AV} {m : Msg} {H : AH} (hN : T_l13Count C n_spec_l13Count) (hO : T_l13Options C n_spec_l13Options) (h : MsgS H q a b c m) (hs : szM m ≤ 1048576) :
    Runs C c_spec_ReadEdns [mV m.h q a b c] H (RePost (rdE m) H) := by
  unfold Runs c_spec_ReadEdns mV
  unfold szM at hs
  have o1 := h.hq.out
  have o2 := h.ha.out
  have o3 := h.hb.out
  have o4 := h.hc.out
  have k1 := hN a m.an H h.ha (by omega)
  have k2 := hN b m.au H h.hb (by omega)
  have k3 := hN c m.ex H h.hc (by omega)
  have l1 := List.length_filter_le isOpt m.an
  have l2 := List.length_filter_le isOpt m.au
  have w1 : IntKind.i64.wrap (((m.an.filter isOpt).length : Int) + ((m.au.filter isOpt).length : Int)) = ((m.an.filter isOpt).length : Int) + ((m.au.filter isOpt).length : Int) := w64 (by omega) (by omega)
  by_cases c1 : (0 : Int) < ((m.an.filter isOpt).length : Int) + ((m.au.filter isOpt).length : Int)
  · simp -implicitDefEqProofs only [bU, reduceIte, Nat.reduceEqDiff, reduceCtorEq, implies_true, forall_const, eq_self, Nat.reduceAdd, Nat.reduceLT, bne_self_eq_false, bT, eq_self, true_implies, false_implies, forall_const, if_true, if_false, Int.reduceToNat, Nat.reduceSub, Int.reduceLE, bV, Nat.reduceAdd, Nat.reduceLT, Nat.reduceLeDiff, Nat.reduceLeDiff, o1, o2, o3, o4, k1, k2, k3, w1, c1, endK, rsC, rsV, resV]
    rw [rdE, if_pos (.inl (by omega))]
    exact .bad (.refl _)
  by_cases c2 : (1 : Int) < ((m.ex.filter isOpt).length : Int)
  · simp -implicitDefEqProofs only [bU, reduceIte, Nat.reduceEqDiff, reduceCtorEq, implies_true, forall_const, eq_self, Nat.reduceAdd, Nat.reduceLT, bne_self_eq_false, bT, eq_self, true_implies, false_implies, forall_const, if_true, if_false, Int.reduceToNat, Nat.reduceSub, Int.reduceLE, bV, Nat.reduceAdd, Nat.reduceLT, Nat.reduceLeDiff, Nat.reduceLeDiff, o1, o2, o3, o4, k1, k2, k3, w1, c1, c2, endK, rsC, rsV, resV]
    rw [rdE, if_pos (.inr (by omega))]
    exact .bad (.refl _)
  have hrd : rdE m = (match m.ex.filter isOpt with
    | [] => (ed0, 0)
    | r :: _ => match opsD r.d with
      | none => (ed0, 32)
      | some os => if r.o = [0] then (edR r os, 0) else (ed0, 32)) := by rw [rdE, if_neg (by omega)] <;> rfl
  obtain ⟨h1, h2⟩ := h.hc.len
  simp -implicitDefEqProofs only [bU, reduceIte, Nat.reduceEqDiff, reduceCtorEq, implies_true, forall_const, eq_self, Nat.reduceAdd, Nat.reduceLT, bne_self_eq_false, bT, eq_self, true_implies, false_implies, forall_const, if_true, if_false, Int.reduceToNat, Nat.reduceSub, Int.reduceLE, bV, Nat.reduceAdd, Nat.reduceLT, Nat.reduceLeDiff, Nat.reduceLeDiff, o1, o2, o3, o4, k1, k2, k3, w1, c1, c2]
  refine exec_loop (fun n e M => ∃ (i : Nat) (L : List Lv) (g : Nat), i ≤ m.ex.length ∧ n = m.ex.length - i ∧ look e 1 = .la 1 0 0 0 ∧ look e 2 = .la 2 1 0 0 ∧ look e 4 = .i .i64 i ∧ M = ⟨L, g, H⟩ ∧
    keepL [1, 2, 4] L = [⟨2, 1, 0, [.ag [.b false, .i .i64 0, .i .i64 0, .i .i64 0, .ns]]⟩, ⟨1, 0, 0, [mV m.h q a b c]⟩] ∧ (m.ex.take i).filter isOpt = []) ?_ (n := m.ex.length) ⟨0, _, _, by omega, by omega, rfl, rfl, rfl, rfl, rfl, rfl⟩
  rintro n e M ⟨i, L, g, hi, rfl, q1, q2, q4, rfl, hL, hf⟩
  unfold mV at hL
  by_cases hlt : (i : Int) < m.ex.length
  · have hil : i < m.ex.length := by omega
    obtain ⟨b1, b2, b3, b4⟩ := Sx.at' h.hc hil
    simp only [show eR.z = 5 from rfl, show eR.v m.ex[i] = AV.ag [.s (m.ex[i]).o, .i .i64 (m.ex[i]).t, .i .i64 (m.ex[i]).c, .i .i64 (m.ex[i]).ttl, .s (m.ex[i]).d] from rfl] at b1 b3 b4
    have hsn := filt_snoc hil
    have w9 : IntKind.i64.wrap ((i : Int) + 1) = ((i + 1 : Nat) : Int) := by rw [w64 (by omega) (by omega)]; rfl
    have hmem : m.ex[i] ∈ m.ex := List.getElem_mem hil
    have hwd : (m.ex[i]).d.length ≤ 1048576 := by have := tot_mem' (w := w_RR) hmem; simp only [w_RR] at this; omega
    by_cases ht : (m.ex[i]).t = 41
    · rw [filt_first hil hf ht] at hrd
      obtain ⟨v, H', k5, k6⟩ := hO (m.ex[i]).d H (by omega)
      simp only at hrd
      cases hod : opsD (m.ex[i]).d with
      | none =>
        rw [hod] at k6 hrd
        obtain ⟨rfl, k6⟩ := k6
        simp -implicitDefEqProofs only [bU, reduceIte, Nat.reduceEqDiff, reduceCtorEq, implies_true, forall_const, eq_self, Nat.reduceAdd, Nat.reduceLT, bne_self_eq_false, bT, eq_self, true_implies, false_implies, forall_const, if_true, if_false, Int.reduceToNat, Nat.reduceSub, Int.reduceLE, bV, Nat.reduceAdd, Nat.reduceLT, Nat.reduceLeDiff, Nat.reduceLeDiff, q1, q2, q4, h1, h2, hL, hlt, b1, b2, b3, b4, toNat_nat, ht, o4, k5, endK, rsC, rsV, resV]
        rw [hrd]
        exact .bad k6
      | some os =>
        rw [hod] at k6 hrd
        obtain ⟨a', rfl, k7, k8, k9⟩ := k6
        have ho := k7.sl.out
        have hone := k7.sl.one
        by_cases hroot : (m.ex[i]).o = [0]
        · simp -implicitDefEqProofs only [bU, reduceIte, Nat.reduceEqDiff, reduceCtorEq, implies_true, forall_const, eq_self, Nat.reduceAdd, Nat.reduceLT, bne_self_eq_false, bT, eq_self, true_implies, false_implies, forall_const, if_true, if_false, Int.reduceToNat, Nat.reduceSub, Int.reduceLE, bV, Nat.reduceAdd, Nat.reduceLT, Nat.reduceLeDiff, Nat.reduceLeDiff, q1, q2, q4, h1, h2, hL, hlt, b1, b2, b3, b4, toNat_nat, ht, o4, k5, ho, hone, hroot, endK, rsC, rsV, resV]
          simp only [hroot, if_true] at hrd
          rw [hrd]
          exact ⟨a', rfl, k7, k8, k9⟩
        · simp -implicitDefEqProofs only [bU, reduceIte, Nat.reduceEqDiff, reduceCtorEq, implies_true, forall_const, eq_self, Nat.reduceAdd, Nat.reduceLT, bne_self_eq_false, bT, eq_self, true_implies, false_implies, forall_const, if_true, if_false, Int.reduceToNat, Nat.reduceSub, Int.reduceLE, bV, Nat.reduceAdd, Nat.reduceLT, Nat.reduceLeDiff, Nat.reduceLeDiff, q1, q2, q4, h1, h2, hL, hlt, b1, b2, b3, b4, toNat_nat, ht, o4, k5, ho, hone, hroot, endK, rsC, rsV, resV]
          simp only [hroot, if_false] at hrd
          rw [hrd]
          exact .bad k8
    · rw [if_neg ht, List.append_nil] at hsn
      simp -implicitDefEqProofs only [bU, reduceIte, Nat.reduceEqDiff, reduceCtorEq, implies_true, forall_const, eq_self, Nat.reduceAdd, Nat.reduceLT, bne_self_eq_false, bT, eq_self, true_implies, false_implies, forall_const, if_true, if_false, Int.reduceToNat, Nat.reduceSub, Int.reduceLE, bV, Nat.reduceAdd, Nat.reduceLT, Nat.reduceLeDiff, Nat.reduceLeDiff, q1, q2, q4, h1, h2, hL, hlt, b1, b2, b3, b4, toNat_nat, ht, w9, o4]
      exact ⟨m.ex.length - (i + 1), by omega, i + 1, _, _, by omega, rfl, rfl, rfl, rfl, hsn.trans hf⟩
  · have hil : i = m.ex.length := by omega
    rw [hil, List.take_length] at hf
    rw [hf] at hrd
    simp -implicitDefEqProofs only [bU, reduceIte, Nat.reduceEqDiff, reduceCtorEq, implies_true, forall_const, eq_self, Nat.reduceAdd, Nat.reduceLT, bne_self_eq_false, bT, eq_self, true_implies, false_implies, forall_const, if_true, if_false, Int.reduceToNat, Nat.reduceSub, Int.reduceLE, bV, Nat.reduceAdd, Nat.reduceLT, Nat.reduceLeDiff, Nat.reduceLeDiff, q1, q2, q4, h1, h2, hL, hlt, o4, endK, rsC, rsV, resV]
    rw [hrd]
    exact .bad (.refl _)
end
end Go.Vm

/- ReadEdns: the program's run. -/
namespace Go.Vm
set_option linter.unusedVariables false
set_option linter.unusedSimpArgs false
theorem rdE_bad1 {m : Msg} (h : m.an.filter isOpt ≠ [] ∨ m.au.filter isOpt ≠ []) : rdE m = (ed0, 32) := by
  rw [rdE, if_pos]
  refine .inl ?_
  rcases h with h | h
  · have := List.length_pos_iff.2 h; omega
  · have := List.length_pos_iff.2 h; omega
theorem rdE_bad2 {m : Msg} (h : (m.ex.filter isOpt).length > 1) : rdE m = (ed0, 32) := by rw [rdE, if_pos (.inr h)]
theorem rdE_bad3 {m : Msg} {r : Rr} {q : List Rr} (h : m.ex.filter isOpt = r :: q) (hr : r.o ≠ [0] ∨ opsD r.d = none) : rdE m = (ed0, 32) := by
  rw [rdE]
  split
  · rfl
  · rw [h]
    simp only
    rcases hr with hr | hr
    · cases opsD r.d with
      | none => rfl
      | some os => simp only [if_neg hr]
    · rw [hr]
theorem filt_none {xs : List Rr} {i : Nat} (hi : i < xs.length) (ht : xs[i].t = 41) : xs.filter isOpt ≠ [] := fun h => by
  have : xs[i] ∈ xs.filter isOpt := List.mem_filter.2 ⟨List.getElem_mem hi, by simp [isOpt, ht]⟩
  rw [h] at this
  cases this
theorem filt_two {xs : List Rr} {i : Nat} {r : Rr} (hi : i < xs.length) (h0 : (xs.take i).filter isOpt = [r]) (ht : xs[i].t = 41) : (xs.filter isOpt).length > 1 := by
  have : xs = xs.take i ++ xs[i] :: xs.drop (i + 1) := by
    rw [← List.drop_eq_getElem_cons hi, List.take_append_drop]
  rw [this, List.filter_append, h0, List.filter_cons, if_pos (by simp [isOpt, ht])]
  simp
section
variable {C : Tab}
set_option maxRecDepth 100000 in
theorem r_impl_ReadEdns {q a b c : AV} {m : Msg} {H : AH} (hU : T_u16 C n_impl_u16) (h : MsgS H q a b c m) (hs : szM m ≤ 1048576) :
    Runs C c_impl_ReadEdns [mV m.h q a b c] H (RePost (rdE m) H) := by
  unfold Runs c_impl_ReadEdns mV
  unfold szM at hs
  have o1 := h.hq.out
  have o2 := h.ha.out
  have o3 := h.hb.out
  have o4 := h.hc.out
  have z2 := h.ha.one
  have z3 := h.hb.one
  simp -implicitDefEqProofs only [bU, reduceIte, Nat.reduceEqDiff, reduceCtorEq, implies_true, forall_const, eq_self, Nat.reduceAdd, Nat.reduceLT, bne_self_eq_false, bT, eq_self, true_implies, false_implies, forall_const, if_true, if_false, Int.reduceToNat, Nat.reduceSub, Int.reduceLE, bV, Nat.reduceAdd, Nat.reduceLT, Nat.reduceLeDiff, Nat.reduceLeDiff, o1, o2, o3, o4, z2, z3, fillEC, fillE, List.replicate, List.set, lenV, lenC]
  refine exec_loop (fun n e M => ∃ (j : Nat) (L : List Lv) (g : Nat), j ≤ 2 ∧ n = 2 - j ∧ look e 1 = .la 1 0 0 0 ∧ look e 2 = .la 2 1 0 0 ∧ look e 17 = .ll 17 2 1 2 ∧ look e 18 = .i .i64 2 ∧ look e 19 = .i .i64 j ∧ M = ⟨L, g, H⟩ ∧
    keepL [1, 2, 17, 18, 19] L = [⟨17, 2, 0, [a, b]⟩, ⟨2, 1, 0, [.ag [.b false, .i .i64 0, .i .i64 0, .i .i64 0, .ns]]⟩, ⟨1, 0, 0, [mV m.h q a b c]⟩] ∧ (0 < j → m.an.filter isOpt = []) ∧ (1 < j → m.au.filter isOpt = [])) ?_ (n := 2)
    ⟨0, _, _, by omega, by omega, rfl, rfl, rfl, rfl, rfl, rfl, rfl, by omega, by omega⟩
  rintro n e M ⟨j, L, g, hj, rfl, q1, q2, q17, q18, q19, rfl, hL, hf1, hf2⟩
  unfold mV at hL
  by_cases hj2 : (j : Int) < 2
  · have hjn : j < 2 := by omega
    obtain ⟨ax, xs, hax, hget, hbad, hxl, hnx⟩ : ∃ ax xs, Sx H eR ax xs ∧ [a, b].getD j .u = ax ∧ (xs.filter isOpt ≠ [] → rdE m = (ed0, 32)) ∧ xs.length ≤ 1048576 ∧ (xs.filter isOpt = [] → (0 < j + 1 → m.an.filter isOpt = []) ∧ (1 < j + 1 → m.au.filter isOpt = [])) := by
      obtain rfl | rfl : j = 0 ∨ j = 1 := by omega
      · exact ⟨a, m.an, h.ha, rfl, fun hx => rdE_bad1 (.inl hx), by omega, fun hx => ⟨fun _ => hx, by omega⟩⟩
      · exact ⟨b, m.au, h.hb, rfl, fun hx => rdE_bad1 (.inr hx), by omega, fun hx => ⟨fun _ => hf1 (by omega), fun _ => hx⟩⟩
    obtain ⟨l1, l2⟩ := hax.len
    have j0 : (0 : Int) ≤ j := by omega
    have za := hax.one
    have hia : iaC (j : Int) (.ll 17 2 1 2) := ⟨j0, hj2⟩
    have w9 : IntKind.i64.wrap ((j : Int) + 1) = ((j + 1 : Nat) : Int) := by rw [w64 (by omega) (by omega)]; rfl
    simp -implicitDefEqProofs only [bU, reduceIte, Nat.reduceEqDiff, reduceCtorEq, implies_true, forall_const, eq_self, Nat.reduceAdd, Nat.reduceLT, bne_self_eq_false, bT, eq_self, true_implies, false_implies, forall_const, if_true, if_false, Int.reduceToNat, Nat.reduceSub, Int.reduceLE, bV, Nat.reduceAdd, Nat.reduceLT, Nat.reduceLeDiff, Nat.reduceLeDiff, q1, q2, q17, q18, q19, hj2, hL, slZ, hia, iaV, toNat_nat, hget, hjn, za, l1, l2]
    refine exec_loop (fun n e M => ∃ (i : Nat) (L : List Lv) (g : Nat), i ≤ xs.length ∧ n = xs.length - i ∧ look e 1 = .la 1 0 0 0 ∧ look e 2 = .la 2 1 0 0 ∧ look e 17 = .ll 17 2 1 2 ∧ look e 18 = .i .i64 2 ∧ look e 19 = .i .i64 j ∧ look e 23 = ax ∧ look e 24 = .i .i64 xs.length ∧ look e 25 = .i .i64 i ∧ M = ⟨L, g, H⟩ ∧
      keepL [1, 2, 17, 18, 19, 23, 24, 25] L = [⟨17, 2, 0, [a, b]⟩, ⟨2, 1, 0, [.ag [.b false, .i .i64 0, .i .i64 0, .i .i64 0, .ns]]⟩, ⟨1, 0, 0, [mV m.h q a b c]⟩] ∧ (xs.take i).filter isOpt = []) ?_ (n := xs.length)
      ⟨0, _, _, by omega, by omega, rfl, rfl, rfl, rfl, rfl, rfl, rfl, rfl, rfl, rfl, rfl⟩
    clear q1 q2 q17 q18 q19 hL
    rintro n e M ⟨i, L, g, hi, rfl, q1, q2, q17, q18, q19, q23, q24, q25, rfl, hL, hf⟩
    unfold mV at hL
    by_cases hlt : (i : Int) < xs.length
    · have hil : i < xs.length := by omega
      obtain ⟨b1, b2, b3, b4⟩ := Sx.at' hax hil
      simp only [show eR.z = 5 from rfl, show eR.v xs[i] = AV.ag [.s (xs[i]).o, .i .i64 (xs[i]).t, .i .i64 (xs[i]).c, .i .i64 (xs[i]).ttl, .s (xs[i]).d] from rfl] at b1 b3 b4
      have hsn := filt_snoc hil
      have w8 : IntKind.i64.wrap ((i : Int) + 1) = ((i + 1 : Nat) : Int) := by rw [w64 (by omega) (by omega)]; rfl
      by_cases ht : (xs[i]).t = 41
      · simp -implicitDefEqProofs only [bU, reduceIte, Nat.reduceEqDiff, reduceCtorEq, implies_true, forall_const, eq_self, Nat.reduceAdd, Nat.reduceLT, bne_self_eq_false, bT, eq_self, true_implies, false_implies, forall_const, if_true, if_false, Int.reduceToNat, Nat.reduceSub, Int.reduceLE, bV, Nat.reduceAdd, Nat.reduceLT, Nat.reduceLeDiff, Nat.reduceLeDiff, q1, q2, q17, q18, q19, q23, q24, q25, hlt, hL, b1, b2, b3, b4, toNat_nat, ht, endK, rsC, rsV, resV]
        rw [hbad (filt_none hil ht)]
        exact .bad (.refl _)
      · rw [if_neg ht, List.append_nil] at hsn
        simp -implicitDefEqProofs only [bU, reduceIte, Nat.reduceEqDiff, reduceCtorEq, implies_true, forall_const, eq_self, Nat.reduceAdd, Nat.reduceLT, bne_self_eq_false, bT, eq_self, true_implies, false_implies, forall_const, if_true, if_false, Int.reduceToNat, Nat.reduceSub, Int.reduceLE, bV, Nat.reduceAdd, Nat.reduceLT, Nat.reduceLeDiff, Nat.reduceLeDiff, q1, q2, q17, q18, q19, q23, q24, q25, hlt, hL, b1, b2, b3, b4, toNat_nat, ht, w8]
        exact ⟨xs.length - (i + 1), by omega, i + 1, _, _, by omega, rfl, rfl, rfl, rfl, hsn.trans hf⟩
    · have hil : i = xs.length := by omega
      rw [hil, List.take_length] at hf
      simp -implicitDefEqProofs only [bU, reduceIte, Nat.reduceEqDiff, reduceCtorEq, implies_true, forall_const, eq_self, Nat.reduceAdd, Nat.reduceLT, bne_self_eq_false, bT, eq_self, true_implies, false_implies, forall_const, if_true, if_false, Int.reduceToNat, Nat.reduceSub, Int.reduceLE, bV, Nat.reduceAdd, Nat.reduceLT, Nat.reduceLeDiff, Nat.reduceLeDiff, q1, q2, q17, q18, q19, q23, q24, q25, hlt, hL, w9]
      exact ⟨2 - (j + 1), by omega, j + 1, _, _, by omega, rfl, rfl, rfl, rfl, hnx hf⟩
  · have hjn : j = 2 := by omega
    have hg1 := hf1 (by omega)
    have hg2 := hf2 (by omega)
    obtain ⟨l1, l2⟩ := h.hc.len
    simp -implicitDefEqProofs only [bU, reduceIte, Nat.reduceEqDiff, reduceCtorEq, implies_true, forall_const, eq_self, Nat.reduceAdd, Nat.reduceLT, bne_self_eq_false, bT, eq_self, true_implies, false_implies, forall_const, if_true, if_false, Int.reduceToNat, Nat.reduceSub, Int.reduceLE, bV, Nat.reduceAdd, Nat.reduceLT, Nat.reduceLeDiff, Nat.reduceLeDiff, q1, q2, q17, q18, q19, hj2, hL, o4, l1, l2]
    refine exec_loop (fun n e M => ∃ (i g8 : Nat) (ed : Ed) (ao : AV) (H' : AH) (L : List Lv) (g : Nat), i ≤ m.ex.length ∧ n = m.ex.length - i ∧ look e 2 = .la 2 1 0 0 ∧ look e 8 = .la 8 g8 0 0 ∧ look e 36 = c ∧ look e 37 = .i .i64 m.ex.length ∧ look e 38 = .i .i64 i ∧ M = ⟨L, g, H'⟩ ∧
      keepL [2, 8, 36, 37, 38] L = [⟨8, g8, 0, [edV ed ao]⟩, ⟨2, 1, 0, [.ag [.b false, .i .i64 0, .i .i64 0, .i .i64 0, .ns]]⟩] ∧ Ext H H' ∧ Mx H' eO ao ed.os ∧ (∀ i, i ∈ idA ao → H.n ≤ i) ∧
      (((m.ex.take i).filter isOpt = [] ∧ ed = ed0) ∨ ∃ r, (m.ex.take i).filter isOpt = [r] ∧ r.o = [0] ∧ opsD r.d = some ed.os ∧ ed = edR r ed.os)) ?_ (n := m.ex.length)
      ⟨0, g, ed0, .ns, H, _, _, by omega, by omega, rfl, rfl, rfl, rfl, rfl, rfl, rfl, .refl _, .nil, by simp [idA], .inl ⟨rfl, rfl⟩⟩
    clear q1 q2 q17 q18 q19 hL
    rintro n e M ⟨i, g8, ed, ao, H', L, g, hi, rfl, q2, q8, q36, q37, q38, rfl, hL, he, hm, hid, hst⟩
    unfold edV at hL
    have ho := hm.sl.out
    have hone := hm.sl.one
    have hrd : ((m.ex.filter isOpt).length ≤ 1) → rdE m = (match m.ex.filter isOpt with
        | [] => (ed0, 0)
        | r :: _ => match opsD r.d with
          | none => (ed0, 32)
          | some os => if r.o = [0] then (edR r os, 0) else (ed0, 32)) := fun h1 => by
      rw [rdE, if_neg (by rw [hg1, hg2]; simp; omega)]; rfl
    by_cases hlt : (i : Int) < m.ex.length
    · have hil : i < m.ex.length := by omega
      obtain ⟨b1, b2, b3, b4⟩ := Sx.at' (Sl.ext h.hc he) hil
      simp only [show eR.z = 5 from rfl, show eR.v m.ex[i] = AV.ag [.s (m.ex[i]).o, .i .i64 (m.ex[i]).t, .i .i64 (m.ex[i]).c, .i .i64 (m.ex[i]).ttl, .s (m.ex[i]).d] from rfl] at b1 b3 b4
      have hsn := filt_snoc hil
      have w9 : IntKind.i64.wrap ((i : Int) + 1) = ((i + 1 : Nat) : Int) := by rw [w64 (by omega) (by omega)]; rfl
      have hmem : m.ex[i] ∈ m.ex := List.getElem_mem hil
      have hwd : (m.ex[i]).d.length ≤ 1048576 := by have := tot_mem' (w := w_RR) hmem; simp only [w_RR] at this; omega
      by_cases ht : (m.ex[i]).t = 41
      · rw [if_pos ht] at hsn
        by_cases hp : ed.p = true
        · have hbad : rdE m = (ed0, 32) := by
            rcases hst with ⟨-, rfl⟩ | ⟨r, h1, -⟩
            · cases hp
            · exact rdE_bad2 (filt_two hil h1 ht)
          simp -implicitDefEqProofs only [bU, reduceIte, Nat.reduceEqDiff, reduceCtorEq, implies_true, forall_const, eq_self, Nat.reduceAdd, Nat.reduceLT, bne_self_eq_false, bT, eq_self, true_implies, false_implies, forall_const, if_true, if_false, Int.reduceToNat, Nat.reduceSub, Int.reduceLE, bV, Nat.reduceAdd, Nat.reduceLT, Nat.reduceLeDiff, Nat.reduceLeDiff, q2, q8, q36, q37, q38, hlt, hL, b1, b2, b3, b4, toNat_nat, ht, hp, endK, rsC, rsV, resV]
          rw [hbad]
          exact .bad he
        · have hpf : ed.p = false := by simpa using hp
          have hf : (m.ex.take i).filter isOpt = [] := by
            rcases hst with ⟨h1, -⟩ | ⟨r, -, -, -, h2⟩
            · exact h1
            · rw [h2] at hpf; cases hpf
          have hfst := filt_first hil hf ht
          by_cases hroot : (m.ex[i]).o = [0]
          case neg =>
            simp -implicitDefEqProofs only [bU, reduceIte, Nat.reduceEqDiff, reduceCtorEq, implies_true, forall_const, eq_self, Nat.reduceAdd, Nat.reduceLT, bne_self_eq_false, bT, eq_self, true_implies, false_implies, forall_const, if_true, if_false, Int.reduceToNat, Nat.reduceSub, Int.reduceLE, bV, Nat.reduceAdd, Nat.reduceLT, Nat.reduceLeDiff, Nat.reduceLeDiff, q2, q8, q36, q37, q38, hlt, hL, b1, b2, b3, b4, toNat_nat, ht, hpf, hroot, endK, rsC, rsV, resV]
            rw [rdE_bad3 hfst (.inl hroot)]
            exact .bad he
          simp -implicitDefEqProofs only [bU, reduceIte, Nat.reduceEqDiff, reduceCtorEq, implies_true, forall_const, eq_self, Nat.reduceAdd, Nat.reduceLT, bne_self_eq_false, bT, eq_self, true_implies, false_implies, forall_const, if_true, if_false, Int.reduceToNat, Nat.reduceSub, Int.reduceLE, bV, Nat.reduceAdd, Nat.reduceLT, Nat.reduceLeDiff, Nat.reduceLeDiff, q2, q8, q36, q37, q38, hlt, hL, b1, b2, b3, b4, toNat_nat, ht, hpf, hroot, ho, hone]
          refine exec_loop (fun n e M => ∃ (s : List UInt8) (os : List Opt) (ao : AV) (H' : AH) (L : List Lv) (g : Nat), n = s.length ∧ look e 2 = .la 2 1 0 0 ∧ look e 8 = .la 8 g8 0 0 ∧ look e 11 = .s s ∧ look e 36 = c ∧ look e 37 = .i .i64 m.ex.length ∧ look e 38 = .i .i64 i ∧ M = ⟨L, g, H'⟩ ∧
            keepL [2, 8, 11, 36, 37, 38] L = [⟨8, g8, 0, [edV (edR m.ex[i] os) ao]⟩, ⟨2, 1, 0, [.ag [.b false, .i .i64 0, .i .i64 0, .i .i64 0, .ns]]⟩] ∧ Ext H H' ∧ Mx H' eO ao os ∧ (∀ i, i ∈ idA ao → H.n ≤ i) ∧
            os.length + s.length ≤ (m.ex[i]).d.length ∧ opsD (m.ex[i]).d = (opsD s).map fun q => os ++ q) ?_ (n := (m.ex[i]).d.length)
            ⟨(m.ex[i]).d, [], .ns, H', _, _, rfl, rfl, rfl, rfl, rfl, rfl, rfl, rfl, rfl, he, .nil, by simp [idA], by simp, by simp⟩
          clear q2 q8 q36 q37 q38 hL ho hone hm hid b1 b2 b3 b4 he
          rintro n e M ⟨s, os, ao, H', L, g, rfl, q2, q8, q11, q36, q37, q38, rfl, hL, he, hm, hid, hl, hop⟩
          unfold edV at hL
          have ho := hm.sl.out
          have hone := hm.sl.one
          simp only [edR] at hL
          by_cases hs : s = []
          · subst hs
            rw [opsD_nil] at hop
            simp only [Option.map_some, List.append_nil] at hop
            simp -implicitDefEqProofs only [bU, reduceIte, Nat.reduceEqDiff, reduceCtorEq, implies_true, forall_const, eq_self, Nat.reduceAdd, Nat.reduceLT, bne_self_eq_false, bT, eq_self, true_implies, false_implies, forall_const, if_true, if_false, Int.reduceToNat, Nat.reduceSub, Int.reduceLE, bV, Nat.reduceAdd, Nat.reduceLT, Nat.reduceLeDiff, Nat.reduceLeDiff, q2, q8, q11, q36, q37, q38, hL, ho, hone, w9]
            exact ⟨m.ex.length - (i + 1), by omega, i + 1, g8, edR m.ex[i] os, ao, H', _, _, by omega, rfl, rfl, rfl, rfl, rfl, he, hm, hid, .inr ⟨m.ex[i], by rw [hsn, hf]; rfl, hroot, hop, rfl⟩⟩
          have hs0 : 0 < s.length := List.length_pos_iff.2 hs
          by_cases h4 : (s.length : Int) < 4
          · rw [opsD_bad hs (by omega)] at hop
            simp only [Option.map_none] at hop
            simp -implicitDefEqProofs only [bU, reduceIte, Nat.reduceEqDiff, reduceCtorEq, implies_true, forall_const, eq_self, Nat.reduceAdd, Nat.reduceLT, bne_self_eq_false, bT, eq_self, true_implies, false_implies, forall_const, if_true, if_false, Int.reduceToNat, Nat.reduceSub, Int.reduceLE, bV, Nat.reduceAdd, Nat.reduceLT, Nat.reduceLeDiff, Nat.reduceLeDiff, q2, q8, q11, q36, q37, q38, hL, hs, h4, endK, rsC, rsV, resV]
            rw [rdE_bad3 hfst (.inr hop)]
            exact .bad he
          have e2 : (s.drop 2).take (s.length - 2) = s.drop 2 := List.take_of_length_le (by simp)
          have c1 := hU (s.drop 2) H' (by simp; omega)
          have c2 := hU s H' (by omega)
          have hlt2 := num2_lt (s.drop 2)
          have r2 : (2 : Int) ≤ s.length := by omega
          generalize hn : num ((s.drop 2).take 2) 0 = k at *
          have w4 : IntKind.i64.wrap (4 + (k : Int)) = ((4 + k : Nat) : Int) := by rw [w64 (by omega) (by omega)]; omega
          by_cases hb : (s.length : Int) < ((4 + k : Nat) : Int)
          · rw [opsD_bad hs (by omega)] at hop
            simp only [Option.map_none] at hop
            simp -implicitDefEqProofs only [bU, reduceIte, Nat.reduceEqDiff, reduceCtorEq, implies_true, forall_const, eq_self, Nat.reduceAdd, Nat.reduceLT, bne_self_eq_false, bT, eq_self, true_implies, false_implies, forall_const, if_true, if_false, Int.reduceToNat, Nat.reduceSub, Int.reduceLE, bV, Nat.reduceAdd, Nat.reduceLT, Nat.reduceLeDiff, Nat.reduceLeDiff, q2, q8, q11, q36, q37, q38, hL, hs, h4, r2, e2, c1, w4, hb, Int.reduceToNat, Int.reduceLE, Int.le_refl, toNat_nat, endK, rsC, rsV, resV]
            rw [rdE_bad3 hfst (.inr hop)]
            exact .bad he
          have hop' := opsD_ok hs (by omega)
          rw [hop', Option.map_map, hn] at hop
          have r5 : (4 : Int) ≤ ((4 + k : Nat) : Int) := by omega
          have r6 : ((4 + k : Nat) : Int) ≤ s.length := by omega
          have r7 : (0 : Int) ≤ ((4 + k : Nat) : Int) := by omega
          have r8 : 4 + k - 4 = k := by omega
          have e1 : opt1 s = (((num (s.take 2) 0 : Nat) : Int), (s.drop 4).take k) := by rw [opt1, hn]
          have e3 : (s.drop (4 + k)).take (s.length - (4 + k)) = s.drop (4 + k) := List.take_of_length_le (by simp)
          obtain ⟨p1, o', H2, p2, p3, p4, p5, p6, p7, -⟩ := Mn.ap (z := 2) (by' := 24) hm (lit_srcE (t := 88) (g := g) (x := opt1 s) (L := [⟨8, g8, 0, [edV (edR m.ex[i] os) ao]⟩, ⟨2, 1, 0, [.ag [.b false, .i .i64 0, .i .i64 0, .i .i64 0, .ns]]⟩]) (H := H')) (by simp; omega)
          simp only [e1, edV, edR] at p1 p2 p3
          simp -implicitDefEqProofs only [bU, reduceIte, Nat.reduceEqDiff, reduceCtorEq, implies_true, forall_const, eq_self, Nat.reduceAdd, Nat.reduceLT, bne_self_eq_false, bT, eq_self, true_implies, false_implies, forall_const, if_true, if_false, Int.reduceToNat, Nat.reduceSub, Int.reduceLE, bV, Nat.reduceAdd, Nat.reduceLT, Nat.reduceLeDiff, Nat.reduceLeDiff, q2, q8, q11, q36, q37, q38, hL, hs, h4, r2, r5, r6, r7, r8, e2, e3, c1, c2, w4, hb, Int.reduceToNat, Int.reduceLE, Int.le_refl, toNat_nat, fillEC, fillE, List.replicate, List.set, ho, hone]
          have oo := (Mn.sl p4).out
          have oz := (Mn.sl p4).one
          simp -implicitDefEqProofs only [bU, reduceIte, Nat.reduceEqDiff, reduceCtorEq, implies_true, forall_const, eq_self, Nat.reduceAdd, Nat.reduceLT, bne_self_eq_false, bT, eq_self, true_implies, false_implies, forall_const, if_true, if_false, Int.reduceToNat, Nat.reduceSub, Int.reduceLE, bV, Nat.reduceAdd, Nat.reduceLT, Nat.reduceLeDiff, Nat.reduceLeDiff, p1, p2, p3, oo, oz, e3]
          refine ⟨(s.drop (4 + k)).length, by simp; omega, s.drop (4 + k), os ++ [opt1 s], o', H2, _, _, rfl, rfl, rfl, rfl, he.put hid p5 p6, ?_, fun j hj => ?_, by simp; omega, ?_⟩
          · have : Mn H2 2 o' (os.map eO.v ++ [eO.v (opt1 s)]) := p4
            unfold Mx
            rw [List.map_append]
            exact this
          · rcases p7 j hj with h | h
            · exact hid j h
            · have := he.n; omega
          · rw [hop]
            cases opsD (s.drop (4 + k)) <;> simp
      · rw [if_neg ht, List.append_nil] at hsn
        simp -implicitDefEqProofs only [bU, reduceIte, Nat.reduceEqDiff, reduceCtorEq, implies_true, forall_const, eq_self, Nat.reduceAdd, Nat.reduceLT, bne_self_eq_false, bT, eq_self, true_implies, false_implies, forall_const, if_true, if_false, Int.reduceToNat, Nat.reduceSub, Int.reduceLE, bV, Nat.reduceAdd, Nat.reduceLT, Nat.reduceLeDiff, Nat.reduceLeDiff, q2, q8, q36, q37, q38, hlt, hL, b1, b2, b3, b4, toNat_nat, ht, w9]
        exact ⟨m.ex.length - (i + 1), by omega, i + 1, g8, ed, ao, H', _, _, by omega, rfl, rfl, rfl, rfl, rfl, he, hm, hid, by rw [hsn]; exact hst⟩
    · have hil : i = m.ex.length := by omega
      rw [hil, List.take_length] at hst
      simp -implicitDefEqProofs only [bU, reduceIte, Nat.reduceEqDiff, reduceCtorEq, implies_true, forall_const, eq_self, Nat.reduceAdd, Nat.reduceLT, bne_self_eq_false, bT, eq_self, true_implies, false_implies, forall_const, if_true, if_false, Int.reduceToNat, Nat.reduceSub, Int.reduceLE, bV, Nat.reduceAdd, Nat.reduceLT, Nat.reduceLeDiff, Nat.reduceLeDiff, q2, q8, q36, q37, q38, hlt, hL, ho, hone, endK, rsC, rsV, resV]
      have hre : rdE m = (ed, 0) := by
        rcases hst with ⟨h1, rfl⟩ | ⟨r, h1, h2, h3, h4⟩
        · rw [hrd (by rw [h1]; simp), h1]
        · rw [hrd (by rw [h1]; simp), h1]
          simp only [h3, h2, if_true]
          rw [← h4]
      rw [hre]
      exact ⟨ao, rfl, hm, he, hid⟩
end
end Go.Vm

/- Functions' code as literals of the abstract machine, printed by wip/tools/lits.py; the kernel checks each against the translation. -/
namespace Go.Vm
set_option linter.unusedVariables false
set_option linter.unusedSimpArgs false
/-- loop.example/s01858/spec.DrawEdnsRecord -/
def c_spec_DrawEdnsRecord : Fn := ⟨1, [(.t 2), (.t 3), (.t 4), (.t 5)],
    .q (.o [.mv 2 (.c (.i .i64 0)),
      .mv 3 (.c (.i .i64 0)),
      .mv 4 (.c (.i .i64 0)),
      .mv 5 (.c .ns)])
    (.q (.o [.mv 11 (.t 0),
      .cl (some 12) 23 [(.t 11)],
      .al 6 3 [(.ag [.ns, (.i .i64 0), (.i .u64 0)])],
      .st (.t 6) (.t 12) 3])
    (.q (.o [.cl (some 13) 24 [(.t 6), (.c (.i .i64 65536))],
      .mv 7 (.t 13)])
    (.q (.o [.cl (some 14) 24 [(.t 6), (.c (.i .i64 256))],
      .mv 8 (.t 14)])
    (.q (.o [.cl (some 15) 24 [(.t 6), (.c (.i .i64 65536))],
      .mv 9 (.t 15)])
    (.q (.o [.cl (some 16) 25 [(.t 6)],
      .mv 10 (.t 16)])
    (.q (.q (.o [.cl (some 17) 24 [(.t 6), (.c (.i .i64 16))]])
    (.b 0 (.q (.o [.bn 19 .eql (.t 17) (.c (.i .i64 0)),
      .mv 18 (.t 19)])
    (.i (.t 18) (.o [.mv 7 (.c (.i .i64 65536))])
    (.q (.o [.bn 21 .eql (.t 17) (.c (.i .i64 1)),
      .mv 20 (.t 21)])
    (.i (.t 20) (.o [.mv 8 (.c (.i .i64 256))])
    (.q (.o [.bn 23 .eql (.t 17) (.c (.i .i64 2)),
      .mv 22 (.t 23)])
    (.i (.t 22) (.o [.mv 9 (.c (.i .i64 (-1)))])
    (.q (.o [.bn 25 .eql (.t 17) (.c (.i .i64 3)),
      .mv 24 (.t 25)])
    (.i (.t 24) (.o [.mv 26 (.t 10),
      .bd 27 [(.i .i64 0), (.s [])] [(0, 1, (.c (.i .i64 65536)))],
      .lbs 28 (.ag [(.i .i64 0), (.s [])]) 2 1 [(0, (.t 27))],
      .ap 29 (.t 26) (.t 28) 2 24,
      .mv 10 (.t 29)])
    (.q (.o [.bn 31 .eql (.t 17) (.c (.i .i64 4)),
      .mv 30 (.t 31)])
    (.i (.t 30) (.o [.mv 32 (.t 10),
      .cl (some 33) 24 [(.t 6), (.c (.i .i64 2))],
      .bn 34 .sub (.c (.i .i64 65531)) (.t 33),
      .mk 35 (.i .u8 0) 1 1 (.t 34),
      .cbs 36 (.t 35),
      .bd 37 [(.i .i64 0), (.s [])] [(1, 1, (.t 36))],
      .lbs 38 (.ag [(.i .i64 0), (.s [])]) 2 1 [(0, (.t 37))],
      .ap 39 (.t 32) (.t 38) 2 24,
      .mv 10 (.t 39)])
    (.q (.o [.bn 41 .eql (.t 17) (.c (.i .i64 5)),
      .mv 40 (.t 41)])
    (.i (.t 40) (.o [.cl (some 42) 24 [(.t 6), (.c (.i .i64 3))],
      .bn 43 .add (.c (.i .i64 65530)) (.t 42),
      .mk 44 (.i .u8 0) 1 1 (.t 43),
      .cbs 45 (.t 44),
      .bd 46 [(.i .i64 0), (.s [])] [(1, 1, (.t 45))],
      .bs 47 (.ag [(.i .i64 0), (.s [])]) 2 1 [(0, (.t 46))],
      .mv 10 (.t 47)])
    (.k)))))))))))))))
    (.q (.o [.mv 48 (.t 7),
      .mv 49 (.t 8),
      .mv 50 (.t 9),
      .mv 51 (.t 10),
      .mv 2 (.t 48),
      .mv 3 (.t 49),
      .mv 4 (.t 50),
      .mv 5 (.t 51)])
    (.r))))))))⟩
abbrev n_spec_DrawEdnsRecord : Nat := 6
theorem k_spec_DrawEdnsRecord : chkF Go.Proofs.Tryd.prog c_spec_DrawEdnsRecord 6 = true := by kernel_rfl
/-- loop.example/s01858/spec.l01Begin -/
def c_spec_l01Begin : Fn := ⟨1, [(.c 2 (some 3))],
    .q (.o [.lal 2 (.ag [.ns, (.i .i64 0), (.i .u64 0)])])
    (.q (.o [.mv 5 (.t 0),
      .bd 6 [.ns, (.i .i64 0), (.i .u64 0)] [(0, 1, (.t 5))],
      .lal 3 (.ag [.ns, (.i .i64 0), (.i .u64 0)]),
      .st (.t 3) (.t 6) 3])
    (.q (.o [.fa 7 (.t 3) 2,
      .st (.t 7) (.c (.i .u64 1469598103934665603)) 1])
    (.q (.q (.o [.mv 4 (.c (.i .i64 0))])
    (.b 0 (.l [0, 2, 3, 4] (.q (.q (.o [.mv 8 (.t 4),
      .mv 9 (.t 0),
      .ln 10 (.t 9),
      .bn 11 .lss (.t 8) (.t 10)])
    (.i (.t 11) (.k)
    (.x 0)))
    (.q (.b 1 (.p [⟨.fa 14 (.t 3) 2, [], false⟩,
      ⟨.ld 15 (.t 14) none, [], false⟩,
      ⟨.mv 16 (.t 0), [], false⟩,
      ⟨.mv 17 (.t 4), [], false⟩,
      ⟨.ia 18 (.t 16) (.t 17) 1, [], false⟩,
      ⟨.ld 19 (.t 18) none, [], false⟩,
      ⟨.ci 20 .u64 (.t 19), [], false⟩,
      ⟨.bn 21 .xor (.t 15) (.t 20), [], false⟩,
      ⟨.bn 22 .mul (.t 21) (.c (.i .u64 1099511628211)), [], false⟩,
      ⟨.fa 23 (.t 3) 2, [], false⟩,
      ⟨.st (.t 23) (.t 22) 1, [], false⟩]))
    (.o [.mv 12 (.t 4),
      .bn 13 .add (.t 12) (.c (.i .i64 1)),
      .mv 4 (.t 13)]))))))
    (.q (.o [.ld 24 (.t 3) (some 3),
      .st (.t 2) (.t 24) 3])
    (.r)))))⟩
abbrev n_spec_l01Begin : Nat := 23
theorem k_spec_l01Begin : chkF Go.Proofs.Tryd.prog c_spec_l01Begin 23 = true := by kernel_rfl
/-- loop.example/s01858/spec.l01Next -/
def c_spec_l01Next : Fn := ⟨2, [(.t 4)],
    .q (.o [.mv 4 (.c (.i .i64 0))])
    (.q (.q (.o [.mv 6 (.t 1),
      .bn 7 .leq (.t 6) (.c (.i .i64 0))])
    (.i (.t 7) (.q (.o [.mv 4 (.c (.i .i64 0))])
    (.r))
    (.k)))
    (.q (.o [.mv 8 (.t 0),
      .mv 9 (.t 0),
      .nc 10 (.t 9),
      .fa 11 (.t 10) 2,
      .ld 12 (.t 11) none,
      .bn 13 .mul (.t 12) (.c (.i .u64 6364136223846793005)),
      .bn 14 .add (.t 13) (.c (.i .u64 1442695040888963407)),
      .nc 15 (.t 8),
      .fa 16 (.t 15) 2,
      .st (.t 16) (.t 14) 1])
    (.q (.o [.mv 17 (.t 0),
      .nc 18 (.t 17),
      .fa 19 (.t 18) 2,
      .ld 20 (.t 19) none,
      .bn 21 .shr (.t 20) (.c (.i .u64 33)),
      .mv 5 (.t 21)])
    (.q (.q (.p [⟨.mv 22 (.t 0), [], false⟩,
      ⟨.nc 23 (.t 22), [], false⟩,
      ⟨.fa 24 (.t 23) 1, [], false⟩,
      ⟨.ld 25 (.t 24) none, [], false⟩,
      ⟨.mv 26 (.t 0), [], false⟩,
      ⟨.nc 27 (.t 26), [], false⟩,
      ⟨.fa 28 (.t 27) 0, [], false⟩,
      ⟨.ld 29 (.t 28) none, [], false⟩,
      ⟨.ln 30 (.t 29), [], false⟩,
      ⟨.bn 31 .lss (.t 25) (.t 30), [], false⟩])
    (.i (.t 31) (.q (.p [⟨.mv 32 (.t 5), [], false⟩,
      ⟨.mv 33 (.t 0), [], false⟩,
      ⟨.nc 34 (.t 33), [], false⟩,
      ⟨.fa 35 (.t 34) 0, [], false⟩,
      ⟨.ld 36 (.t 35) none, [], false⟩,
      ⟨.mv 37 (.t 0), [], false⟩,
      ⟨.nc 38 (.t 37), [], false⟩,
      ⟨.fa 39 (.t 38) 1, [], false⟩,
      ⟨.ld 40 (.t 39) none, [], false⟩,
      ⟨.ia 41 (.t 36) (.t 40) 1, [], false⟩,
      ⟨.ld 42 (.t 41) none, [], false⟩,
      ⟨.ci 43 .u64 (.t 42), [], false⟩,
      ⟨.bn 44 .xor (.t 32) (.t 43), [], false⟩,
      ⟨.mv 5 (.t 44), [], false⟩])
    (.o [.mv 45 (.t 0),
      .mv 46 (.t 0),
      .nc 47 (.t 46),
      .fa 48 (.t 47) 1,
      .ld 49 (.t 48) none,
      .bn 50 .add (.t 49) (.c (.i .i64 1)),
      .nc 51 (.t 45),
      .fa 52 (.t 51) 1,
      .st (.t 52) (.t 50) 1]))
    (.k)))
    (.q (.o [.mv 53 (.t 5),
      .mv 54 (.t 1),
      .ci 55 .u64 (.t 54),
      .bn 56 .rem (.t 53) (.t 55),
      .ci 57 .i64 (.t 56),
      .mv 4 (.t 57)])
    (.r))))))⟩
abbrev n_spec_l01Next : Nat := 24
theorem k_spec_l01Next : chkF Go.Proofs.Tryd.prog c_spec_l01Next 24 = true := by kernel_rfl
/-- loop.example/s01858/spec.l13DrawOptions -/
def c_spec_l13DrawOptions : Fn := ⟨1, [(.t 2)],
    .q (.o [.mv 2 (.c .ns)])
    (.q (.o [.bs 6 (.ag [(.i .i64 0), (.s [])]) 2 0 [],
      .mv 3 (.t 6)])
    (.q (.o [.mv 7 (.t 0),
      .cl (some 8) 24 [(.t 7), (.c (.i .i64 3))],
      .mv 4 (.t 8)])
    (.q (.q (.o [.mv 5 (.c (.i .i64 0))])
    (.b 0 (.l [0, 3, 4, 5] (.q (.q (.o [.mv 9 (.t 5),
      .mv 10 (.t 4),
      .bn 11 .lss (.t 9) (.t 10)])
    (.i (.t 11) (.k)
    (.x 0)))
    (.q (.b 1 (.o [.mv 14 (.t 3),
      .mv 15 (.t 0),
      .cl (some 16) 24 [(.t 15), (.c (.i .i64 20))],
      .mv 17 (.t 0),
      .mv 18 (.t 0),
      .cl (some 19) 24 [(.t 18), (.c (.i .i64 5))],
      .cl (some 20) 59 [(.t 17), (.t 19)],
      .bd 21 [(.i .i64 0), (.s [])] [(0, 1, (.t 16)), (1, 1, (.t 20))],
      .lbs 22 (.ag [(.i .i64 0), (.s [])]) 2 1 [(0, (.t 21))],
      .ap 23 (.t 14) (.t 22) 2 24,
      .mv 3 (.t 23)]))
    (.o [.mv 12 (.t 5),
      .bn 13 .add (.t 12) (.c (.i .i64 1)),
      .mv 5 (.t 13)]))))))
    (.q (.o [.mv 24 (.t 3),
      .mv 2 (.t 24)])
    (.r)))))⟩
abbrev n_spec_l13DrawOptions : Nat := 25
theorem k_spec_l13DrawOptions : chkF Go.Proofs.Tryd.prog c_spec_l13DrawOptions 25 = true := by kernel_rfl
/-- loop.example/s01858/spec.l01Bytes -/
def c_spec_l01Bytes : Fn := ⟨2, [(.t 4)],
    .q (.o [.mv 4 (.c (.s []))])
    (.q (.o [.bs 7 (.i .u8 0) 1 0 [],
      .mv 5 (.t 7)])
    (.q (.q (.o [.mv 6 (.c (.i .i64 0))])
    (.b 0 (.l [0, 1, 5, 6] (.q (.q (.o [.mv 8 (.t 6),
      .mv 9 (.t 1),
      .bn 10 .lss (.t 8) (.t 9)])
    (.i (.t 10) (.k)
    (.x 0)))
    (.q (.b 1 (.o [.mv 13 (.t 5),
      .mv 14 (.t 0),
      .cl (some 15) 24 [(.t 14), (.c (.i .i64 256))],
      .ci 16 .u8 (.t 15),
      .lbs 17 (.i .u8 0) 1 1 [(0, (.t 16))],
      .ap 18 (.t 13) (.t 17) 1 1,
      .mv 5 (.t 18)]))
    (.o [.mv 11 (.t 6),
      .bn 12 .add (.t 11) (.c (.i .i64 1)),
      .mv 6 (.t 12)]))))))
    (.q (.o [.mv 19 (.t 5),
      .cbs 20 (.t 19),
      .mv 4 (.t 20)])
    (.r))))⟩
abbrev n_spec_l01Bytes : Nat := 59
theorem k_spec_l01Bytes : chkF Go.Proofs.Tryd.prog c_spec_l01Bytes 59 = true := by kernel_rfl
end Go.Vm

/- Draws of the laws: a source of numbers, drawn options. Only what holds of every draw. -/
namespace Go.Vm
set_option linter.unusedVariables false
set_option linter.unusedSimpArgs false
/-- A source: its code, its place, its state. -/
structure Src (H : AH) (id : Nat) (a : AV) (l : List UInt8) : Prop where
  ex : ∃ pos st : Int, Obj1 H id [a, .i .i64 pos, .i .u64 st] ∧ 0 ≤ pos ∧ pos ≤ l.length
  by' : Byt H a l
  ne : ¬ id ∈ idA a
theorem Src.ext {H H' : AH} {id : Nat} {a : AV} {l : List UInt8} (h : Src H id a l) (he : Ext H H') : Src H' id a l := by
  obtain ⟨⟨pos, st, h1, h2, h3⟩, h4, h5⟩ := h
  exact ⟨⟨pos, st, h1.ext he, h2, h3⟩, Sl.ext h4 he, h5⟩
def T_l01Next (C : Tab) (f : Nat) : Prop := ∀ (id : Nat) (a : AV) (l : List UInt8) (n : Int) (H : AH), Src H id a l → l.length ≤ 1099511627776 → 0 < n → n ≤ 1099511627776 → ∃ v H', C f [.pv id 0, .i .i64 n] H = some (v, H') ∧ (∃ r : Nat, v = .i .i64 r ∧ (r : Int) < n) ∧ Src H' id a l ∧ Kp [id] H H'
theorem bitw_u64 (op : BinOp) (x y : Int) : 0 ≤ bitw op .u64 x y := by
  unfold bitw
  simp only
  rw [IntKind.wrap_u64]
  omega
theorem wrap_u64_nn (x : Int) : 0 ≤ IntKind.u64.wrap x := by rw [IntKind.wrap_u64]; omega
section
variable {C : Tab}
theorem r_l01Next {id : Nat} {a : AV} {l : List UInt8} {n : Int} {H : AH} (h : Src H id a l) (hl : l.length ≤ 1099511627776) (hn : 0 < n) (hn2 : n ≤ 1099511627776) :
    Runs C c_spec_l01Next [.pv id 0, .i .i64 n] H fun v H' => (∃ r : Nat, v = .i .i64 r ∧ (r : Int) < n) ∧ Src H' id a l ∧ Kp [id] H H' := by
  unfold Runs c_spec_l01Next
  obtain ⟨⟨pos, st, h1, h2, h3⟩, h4, h5⟩ := h
  have hn0 : ¬ n ≤ 0 := by omega
  obtain ⟨a1, a2⟩ := h1.ld (off := 2) (by simp)
  have a2' := fun (L : List Lv) (g : Nat) => (a2 L g).trans (show _ = AV.i .u64 st from rfl)
  generalize hs : IntKind.u64.wrap (IntKind.u64.wrap (st * 6364136223846793005) + 1442695040888963407) = st2
  have hst2 : 0 ≤ st2 := by rw [← hs]; exact wrap_u64_nn _
  obtain ⟨b1, H1, b2, b3, b4, b5⟩ := h1.st (off := 2) (v := .i .u64 st2) (by simp) rfl
  have b3 : Obj1 H1 id [a, .i .i64 pos, .i .u64 st2] := b3
  obtain ⟨c1, c2⟩ := b3.ld (off := 2) (by simp)
  have c2' := fun (L : List Lv) (g : Nat) => (c2 L g).trans (show _ = AV.i .u64 st2 from rfl)
  obtain ⟨d1, d2⟩ := b3.ld (off := 1) (by simp)
  have d2' := fun (L : List Lv) (g : Nat) => (d2 L g).trans (show _ = AV.i .i64 pos from rfl)
  obtain ⟨e1, e2⟩ := b3.ld (off := 0) (by simp)
  have e2' := fun (L : List Lv) (g : Nat) => (e2 L g).trans (show _ = a from rfl)
  have k1 : Kp [id] H H1 := Kp.st b4 b5
  have hb : Byt H1 a l := k1.sl h4 fun i hi hm => by simp only [List.mem_singleton] at hm; subst hm; exact h5 hi
  obtain ⟨l1, l2⟩ := Byt.len hb
  have hx0 : 0 ≤ st2.fdiv (2 ^ (min 33 IntKind.u64.bits)) := by
    rw [Int.fdiv_eq_ediv_of_nonneg _ (Int.le_of_lt (Int.pow_pos (by decide)))]
    exact Int.ediv_nonneg hst2 (Int.le_of_lt (Int.pow_pos (by decide)))
  have hnw : IntKind.u64.wrap n = n := by rw [IntKind.wrap_u64]; omega
  have hnz : n ≠ 0 := by omega
  have hfin : ∀ x : Int, 0 ≤ x → ∃ r : Nat, IntKind.i64.wrap (x.tmod n) = r ∧ (r : Int) < n := fun x hx => by
    rw [Int.tmod_eq_emod_of_nonneg hx]
    have q1 := Int.emod_nonneg x hnz
    have q2 := Int.emod_lt_of_pos x hn
    refine ⟨(x % n).toNat, ?_, by omega⟩
    rw [w64 (by omega) (by omega)]; omega
  have h2' : (0 : Int) ≤ pos := h2
  have hout := h4.out
  have hone := h4.one
  by_cases hp : pos < (l.length : Int)
  · obtain ⟨p1, p2, p3, p4⟩ : slZ H1 1 a ∧ iaC pos a ∧ (∀ (L : List Lv) (g : Nat), ldC ⟨L, g, H1⟩ none (iaV pos.toNat a)) ∧ ∀ (L : List Lv) (g : Nat), ldX ⟨L, g, H1⟩ none (iaV pos.toNat a) = .i .u8 (l.getD pos.toNat 0).toNat := by
      obtain ⟨p1, p2, -, -⟩ := hb.ia h2 hp [] 0
      exact ⟨p1, p2, fun L g => (hb.ia h2 hp L g).2.2.1, fun L g => (hb.ia h2 hp L g).2.2.2⟩
    obtain ⟨f1, H2, f2, f3, f4, f5⟩ := b3.st (off := 1) (v := .i .i64 (pos + 1)) (by simp) rfl
    have f3 : Obj1 H2 id [a, .i .i64 (pos + 1), .i .u64 st2] := f3
    have k2 : Kp [id] H1 H2 := Kp.st f4 f5
    have hw : IntKind.i64.wrap (pos + 1) = pos + 1 := w64 (by omega) (by omega)
    obtain ⟨r, r1, r2⟩ := hfin (bitw .xor .u64 (st2.fdiv (2 ^ (min 33 IntKind.u64.bits))) (IntKind.u64.wrap ((l.getD pos.toNat 0).toNat : Int))) (bitw_u64 _ _ _)
    simp -implicitDefEqProofs only [bU, reduceIte, Nat.reduceEqDiff, reduceCtorEq, implies_true, forall_const, eq_self, Nat.reduceAdd, Nat.reduceLT, bne_self_eq_false, bT, eq_self, true_implies, false_implies, forall_const, if_true, if_false, Int.reduceToNat, Nat.reduceSub, Int.reduceLE, Nat.zero_add, pv_faC, pv_faV, hn0, hs, a1, a2', b1, b2, c1, c2', d1, d2', e1, e2', l1, l2, hp, p1, p2, p3, p4, f1, f2, hw, hnw, hnz, ne_eq, r1, Int.reduceToNat, endK, rsC, rsV, resV]
    exact ⟨⟨r, rfl, r2⟩, ⟨⟨pos + 1, st2, f3, by omega, by omega⟩, k2.sl hb fun i hi hm => by simp only [List.mem_singleton] at hm; subst hm; exact h5 hi, h5⟩, k1.trans k2⟩
  · obtain ⟨r, r1, r2⟩ := hfin _ hx0
    simp -implicitDefEqProofs only [bU, reduceIte, Nat.reduceEqDiff, reduceCtorEq, implies_true, forall_const, eq_self, Nat.reduceAdd, Nat.reduceLT, bne_self_eq_false, bT, eq_self, true_implies, false_implies, forall_const, if_true, if_false, Int.reduceToNat, Nat.reduceSub, Int.reduceLE, Nat.zero_add, pv_faC, pv_faV, hn0, hs, a1, a2', b1, b2, c1, c2', d1, d2', e1, e2', l1, l2, hp, hnw, hnz, ne_eq, r1, Int.reduceToNat, endK, rsC, rsV, resV]
    exact ⟨⟨r, rfl, r2⟩, ⟨⟨pos, st2, b3, h2, h3⟩, hb, h5⟩, k1⟩
def T_l01Begin (C : Tab) (f : Nat) : Prop := ∀ (a : AV) (l : List UInt8) (H : AH), Byt H a l → l.length ≤ 1099511627776 → ∃ v H', C f [a] H = some (v, H') ∧ (∃ st : Int, v = .ag [a, .i .i64 0, .i .u64 st]) ∧ H' = H
def T_l01Bytes (C : Tab) (f : Nat) : Prop := ∀ (id : Nat) (a : AV) (l : List UInt8) (n : Nat) (H : AH), Src H id a l → l.length ≤ 1099511627776 → n ≤ 1000 → ∃ v H', C f [.pv id 0, .i .i64 n] H = some (v, H') ∧ (∃ bs : List UInt8, v = .s bs ∧ bs.length = n) ∧ Src H' id a l ∧ Kp [id] H H'
def T_drawOptions (C : Tab) (f : Nat) : Prop := ∀ (id : Nat) (a : AV) (l : List UInt8) (H : AH), Src H id a l → l.length ≤ 1099511627776 → ∃ v H', C f [.pv id 0] H = some (v, H') ∧ (∃ os, Mx H' eO v os ∧ os.length + tot' wO os ≤ 100) ∧ Src H' id a l ∧ Kp [id] H H' ∧ ∀ i, i ∈ idA v → H.n ≤ i
theorem Src.lt {H : AH} {id : Nat} {a : AV} {l : List UInt8} (h : Src H id a l) : id < H.n := by
  obtain ⟨⟨_, _, h1, -⟩, -⟩ := h
  exact h1.lt
theorem Src.kp {H H' : AH} {ids : List Nat} {id : Nat} {a : AV} {l : List UInt8} (h : Src H id a l) (hk : Kp ids H H') (hi : ¬ id ∈ ids) (ha : ∀ i, i ∈ idA a → ¬ i ∈ ids) : Src H' id a l := by
  obtain ⟨⟨pos, st, h1, h2, h3⟩, h4, h5⟩ := h
  exact ⟨⟨pos, st, h1.kp hk hi, h2, h3⟩, hk.sl h4 ha, h5⟩
theorem r_l01Begin {a : AV} {l : List UInt8} {H : AH} (h : Byt H a l) (hl : l.length ≤ 1099511627776) : Runs C c_spec_l01Begin [a] H fun v H' => (∃ st : Int, v = .ag [a, .i .i64 0, .i .u64 st]) ∧ H' = H := by
  unfold Runs c_spec_l01Begin
  obtain ⟨l1, l2⟩ := Byt.len h
  have ho := h.out
  have hone := h.one
  simp -implicitDefEqProofs only [bU, reduceIte, Nat.reduceEqDiff, reduceCtorEq, implies_true, forall_const, eq_self, Nat.reduceAdd, Nat.reduceLT, bne_self_eq_false, bT, eq_self, true_implies, false_implies, forall_const, if_true, if_false, Int.reduceToNat, Nat.reduceSub, Int.reduceLE, bV, Nat.reduceAdd, Nat.reduceLT, Nat.reduceLeDiff, Nat.reduceLeDiff, ho, hone, l1, l2]
  refine exec_loop (fun n e M => ∃ (i : Nat) (st : Int) (L : List Lv) (g : Nat), i ≤ l.length ∧ n = l.length - i ∧ look e 0 = a ∧ look e 2 = .la 2 0 0 0 ∧ look e 3 = .la 3 1 0 0 ∧ look e 4 = .i .i64 i ∧ M = ⟨L, g, H⟩ ∧
    keepL [0, 2, 3, 4] L = [⟨3, 1, 0, [.ag [a, .i .i64 0, .i .u64 st]]⟩, ⟨2, 0, 0, [.ag [.ns, .i .i64 0, .i .u64 0]]⟩]) ?_ (n := l.length) ⟨0, _, _, _, by omega, by omega, rfl, rfl, rfl, rfl, rfl, rfl⟩
  rintro n e M ⟨i, st, L, g, hi, rfl, q0, q2, q3, q4, rfl, hL⟩
  by_cases hlt : (i : Int) < l.length
  · have hp : (0 : Int) ≤ i := by omega
    obtain ⟨p1, p2, p3, p4⟩ : slZ H 1 a ∧ iaC (i : Int) a ∧ (∀ (L : List Lv) (g : Nat), ldC ⟨L, g, H⟩ none (iaV i a)) ∧ ∀ (L : List Lv) (g : Nat), ldX ⟨L, g, H⟩ none (iaV i a) = .i .u8 (l.getD i 0).toNat := by
      obtain ⟨p1, p2, -, -⟩ := h.ia hp hlt [] 0
      exact ⟨p1, p2, fun L g => (h.ia hp hlt L g).2.2.1, fun L g => (h.ia hp hlt L g).2.2.2⟩
    have w9 : IntKind.i64.wrap ((i : Int) + 1) = ((i + 1 : Nat) : Int) := by rw [w64 (by omega) (by omega)]; rfl
    simp -implicitDefEqProofs only [bU, reduceIte, Nat.reduceEqDiff, reduceCtorEq, implies_true, forall_const, eq_self, Nat.reduceAdd, Nat.reduceLT, bne_self_eq_false, bT, eq_self, true_implies, false_implies, forall_const, if_true, if_false, Int.reduceToNat, Nat.reduceSub, Int.reduceLE, bV, Nat.reduceAdd, Nat.reduceLT, Nat.reduceLeDiff, Nat.reduceLeDiff, q0, q2, q3, q4, l1, l2, hlt, hL, ho, hone, p1, p2, p3, p4, toNat_nat, w9]
    exact ⟨l.length - (i + 1), by omega, i + 1, _, _, _, by omega, rfl, rfl, rfl, rfl⟩
  · simp -implicitDefEqProofs only [bU, reduceIte, Nat.reduceEqDiff, reduceCtorEq, implies_true, forall_const, eq_self, Nat.reduceAdd, Nat.reduceLT, bne_self_eq_false, bT, eq_self, true_implies, false_implies, forall_const, if_true, if_false, Int.reduceToNat, Nat.reduceSub, Int.reduceLE, bV, Nat.reduceAdd, Nat.reduceLT, Nat.reduceLeDiff, Nat.reduceLeDiff, q0, q2, q3, q4, l1, l2, hlt, hL, ho, hone, endK, rsC, rsV, resV]
    exact ⟨st, rfl⟩
theorem u8_ofInt (r : Nat) : IntKind.u8.wrap (r : Int) = ((UInt8.ofNat r).toNat : Int) := u8w r
theorem r_l01Bytes {id : Nat} {a : AV} {l : List UInt8} {n : Nat} {H : AH} (hN : T_l01Next C n_spec_l01Next) (h : Src H id a l) (hl : l.length ≤ 1099511627776) (hn : n ≤ 1000) :
    Runs C c_spec_l01Bytes [.pv id 0, .i .i64 n] H fun v H' => (∃ bs : List UInt8, v = .s bs ∧ bs.length = n) ∧ Src H' id a l ∧ Kp [id] H H' := by
  unfold Runs c_spec_l01Bytes
  simp -implicitDefEqProofs only [bU, reduceIte, Nat.reduceEqDiff, reduceCtorEq, implies_true, forall_const, eq_self, Nat.reduceAdd, Nat.reduceLT, bne_self_eq_false, bT, eq_self, true_implies, false_implies, forall_const, if_true, if_false, Int.reduceToNat, Nat.reduceSub, Int.reduceLE, fillEC, fillE, List.replicate]
  have hid := h.lt
  refine exec_loop (fun m e M => ∃ (i : Nat) (bs : List UInt8) (o : AV) (H' : AH) (L : List Lv) (g : Nat), i ≤ n ∧ m = n - i ∧ look e 0 = .pv id 0 ∧ look e 1 = .i .i64 n ∧ look e 5 = o ∧ look e 6 = .i .i64 i ∧ M = ⟨L, g, H'⟩ ∧ bs.length = i ∧ Mb H' o bs ∧ Src H' id a l ∧ Kp [id] H H' ∧ ∀ j, j ∈ idA o → H.n ≤ j) ?_ (n := n)
    ⟨0, [], _, _, _, _, by omega, by omega, rfl, rfl, rfl, rfl, rfl, rfl, Mb.new2 (l := []) rfl, h.ext (.new _ _), .ext (.new _ _), fun j hj => by simp [idA, look] at hj; omega⟩
  rintro m e M ⟨i, bs, o, H', L, g, hi, rfl, q0, q1, q5, q6, rfl, hbl, hm, hs, hk, hid2⟩
  by_cases hlt : (i : Int) < n
  · obtain ⟨v, H1, k1, ⟨r, rfl, hr⟩, k3, k4⟩ := hN id a l 256 H' hs hl (by decide) (by decide)
    have hm1 : Mb H1 o bs := k4.mn hm fun j hj hh => by
      simp only [List.mem_singleton] at hh
      have := hid2 j hj
      omega
    obtain ⟨p1, o', H2, p2, p3, p4, p5, p6, p7, -⟩ := Mn.ap (by' := 1) hm1 (lit_src (t := 17) (g := g) (x := .i .u8 (UInt8.ofNat r).toNat) (L := dropL (keepL [0, 1, 5, 6] L) 17) (H := H1)) (by simp; omega)
    have w9 : IntKind.i64.wrap ((i : Int) + 1) = ((i + 1 : Nat) : Int) := by rw [w64 (by omega) (by omega)]; rfl
    have kp : Kp (idA o) H1 H2 := ⟨p5, p6⟩
    simp -implicitDefEqProofs only [bU, reduceIte, Nat.reduceEqDiff, reduceCtorEq, implies_true, forall_const, eq_self, Nat.reduceAdd, Nat.reduceLT, bne_self_eq_false, bT, eq_self, true_implies, false_implies, forall_const, if_true, if_false, Int.reduceToNat, Nat.reduceSub, Int.reduceLE, q0, q1, q5, q6, hlt, k1, u8w, fillEC, fillE, List.replicate, List.set, p1, p2, p3, w9]
    refine ⟨n - (i + 1), by omega, i + 1, bs ++ [UInt8.ofNat r], o', H2, _, _, by omega, rfl, rfl, rfl, rfl, by simp [hbl], ?_, ?_, ?_, fun j hj => ?_⟩
    · unfold Mb; rw [enc_app]; exact p4
    · refine k3.kp kp (fun hh => ?_) fun j hj hh => ?_
      · have := hid2 _ hh; omega
      · have := hid2 j hh
        have := Sl.lt hs.by' j hj
        have hj2 := Sl.lt h.by' j hj
        omega
    · refine ⟨Nat.le_trans (hk.trans k4).n p5, fun j hj hn => ?_⟩
      rw [p6 j (Nat.lt_of_lt_of_le hj (hk.trans k4).n) fun hh => by have := hid2 j hh; omega]
      exact (hk.trans k4).at' j hj hn
    · rcases p7 j hj with hh | hh
      · exact hid2 j hh
      · have := (hk.trans k4).n; omega
  · obtain ⟨c1, c2⟩ := Byt.cbs hm.sl
    simp -implicitDefEqProofs only [bU, reduceIte, Nat.reduceEqDiff, reduceCtorEq, implies_true, forall_const, eq_self, Nat.reduceAdd, Nat.reduceLT, bne_self_eq_false, bT, eq_self, true_implies, false_implies, forall_const, if_true, if_false, Int.reduceToNat, Nat.reduceSub, Int.reduceLE, q0, q1, q5, q6, hlt, c1, c2, endK, rsC, rsV, resV]
    exact ⟨⟨bs, rfl, by omega⟩, hs, hk⟩
theorem r_drawOptions {id : Nat} {a : AV} {l : List UInt8} {H : AH} (hN : T_l01Next C n_spec_l01Next) (hB : T_l01Bytes C n_spec_l01Bytes) (h : Src H id a l) (hl : l.length ≤ 1099511627776) :
    Runs C c_spec_l13DrawOptions [.pv id 0] H fun v H' => (∃ os, Mx H' eO v os ∧ os.length + tot' wO os ≤ 100) ∧ Src H' id a l ∧ Kp [id] H H' ∧ ∀ i, i ∈ idA v → H.n ≤ i := by
  unfold Runs c_spec_l13DrawOptions
  have hid := h.lt
  obtain ⟨v0, H0, k0, ⟨n, rfl, hn⟩, s0, f0⟩ := hN id a l 3 _ (h.ext (Ext.new H (.arr true 0 2 []))) hl (by decide) (by decide)
  have m0 : Mx H0 eO (.sl H.n 0 0) [] := f0.mn (Mn.own (xs := []) (by simp) new_at) fun j hj hh => by
    simp only [idA, List.mem_singleton] at hj hh
    omega
  simp -implicitDefEqProofs only [bU, reduceIte, Nat.reduceEqDiff, reduceCtorEq, implies_true, forall_const, eq_self, Nat.reduceAdd, Nat.reduceLT, bne_self_eq_false, bT, eq_self, true_implies, false_implies, forall_const, if_true, if_false, Int.reduceToNat, Nat.reduceSub, Int.reduceLE, fillEC, fillE, List.replicate, k0]
  have fk : Kp [id] H H0 := (Kp.ext (Ext.new H (.arr true 0 2 []))).trans f0
  refine exec_loop (fun m e M => ∃ (i : Nat) (os : List Opt) (o : AV) (H' : AH) (L : List Lv) (g : Nat), i ≤ n ∧ m = n - i ∧ look e 0 = .pv id 0 ∧ look e 4 = .i .i64 n ∧ look e 3 = o ∧ look e 5 = .i .i64 i ∧ M = ⟨L, g, H'⟩ ∧ os.length = i ∧ tot' wO os ≤ 5 * i ∧ Mx H' eO o os ∧ Src H' id a l ∧ Kp [id] H H' ∧ ∀ j, j ∈ idA o → H.n ≤ j) ?_ (n := n)
    ⟨0, [], _, H0, _, _, by omega, by omega, rfl, rfl, rfl, rfl, rfl, rfl, by simp [tot'], m0, s0, fk, fun j hj => by simp [idA, look] at hj; omega⟩
  rintro m e M ⟨i, os, o, H', L, g, hi, rfl, q0, q4, q3, q5, rfl, hol, htot, hm, hs, hk, hid2⟩
  have ho := hm.sl.out
  by_cases hlt : (i : Int) < n
  · obtain ⟨v1, H1, k1, ⟨r, rfl, hr⟩, k3, k4⟩ := hN id a l 20 H' hs hl (by decide) (by decide)
    obtain ⟨v2, H2, k5, ⟨r2, rfl, hr2⟩, k7, k8⟩ := hN id a l 5 H1 k3 hl (by decide) (by decide)
    obtain ⟨v3, H3, k9, ⟨bs, rfl, hbs⟩, k11, k12⟩ := hB id a l r2 H2 k7 hl (by omega)
    have kk : Kp [id] H' H3 := (k4.trans k8).trans k12
    have hm1 : Mx H3 eO o os := kk.mn hm fun j hj hh => by
      simp only [List.mem_singleton] at hh
      have := hid2 j hj
      omega
    have hsrc : srcV ⟨⟨22, g, 0, [.ag [.i .i64 r, .s bs]]⟩ :: dropL (keepL [0, 3, 4, 5] L) 22, g + 1, H3⟩ (.ll 22 g 2 1) = [eO.v ((r : Int), bs)] ∧ srcC ⟨⟨22, g, 0, [.ag [.i .i64 r, .s bs]]⟩ :: dropL (keepL [0, 3, 4, 5] L) 22, g + 1, H3⟩ 2 (.ll 22 g 2 1) := by
      simp [srcV, srcC, Mem.getL, Mem.hasL, lookL, eO, Enc.v]
    obtain ⟨p1, o', H4, p2, p3, p4, p5, p6, p7, -⟩ := Mn.ap (z := 2) (by' := 24) hm1 hsrc (by simp; omega)
    have w9 : IntKind.i64.wrap ((i : Int) + 1) = ((i + 1 : Nat) : Int) := by rw [w64 (by omega) (by omega)]; rfl
    have kp : Kp (idA o) H3 H4 := ⟨p5, p6⟩
    simp -implicitDefEqProofs only [bU, reduceIte, Nat.reduceEqDiff, reduceCtorEq, implies_true, forall_const, eq_self, Nat.reduceAdd, Nat.reduceLT, bne_self_eq_false, bT, eq_self, true_implies, false_implies, forall_const, if_true, if_false, Int.reduceToNat, Nat.reduceSub, Int.reduceLE, q0, q3, q4, q5, hlt, k1, k5, k9, fillP, fillC, setPart, fillEC, fillE, List.replicate, List.set, List.take_zero, List.nil_append, List.cons_append, List.drop_succ_cons, List.take_succ_cons, List.append_nil, List.drop_nil, List.drop_zero, Nat.reduceLeDiff, w9]
    simp -implicitDefEqProofs only [bU, reduceIte, Nat.reduceEqDiff, reduceCtorEq, implies_true, forall_const, eq_self, Nat.reduceAdd, Nat.reduceLT, bne_self_eq_false, p1, p2, p3]
    refine ⟨n - (i + 1), by omega, i + 1, os ++ [((r : Int), bs)], o', H4, _, _, by omega, rfl, rfl, rfl, rfl, by simp [hol], ?_, ?_, ?_, ?_, fun j hj => ?_⟩
    · rw [tot_app']; simp [tot', wO]; omega
    · have : Mn H4 2 o' (os.map eO.v ++ [eO.v ((r : Int), bs)]) := p4
      unfold Mx; rw [List.map_append]; exact this
    · refine k11.kp kp (fun hh => ?_) fun j hj hh => ?_
      · have := hid2 _ hh; omega
      · have := hid2 j hh
        have hj2 := Sl.lt h.by' j hj
        omega
    · refine ⟨Nat.le_trans (hk.trans kk).n p5, fun j hj hn => ?_⟩
      rw [p6 j (Nat.lt_of_lt_of_le hj (hk.trans kk).n) fun hh => by have := hid2 j hh; omega]
      exact (hk.trans kk).at' j hj hn
    · rcases p7 j hj with hh | hh
      · exact hid2 j hh
      · have := (hk.trans kk).n; omega
  · simp -implicitDefEqProofs only [bU, reduceIte, Nat.reduceEqDiff, reduceCtorEq, implies_true, forall_const, eq_self, Nat.reduceAdd, Nat.reduceLT, bne_self_eq_false, bT, eq_self, true_implies, false_implies, forall_const, if_true, if_false, Int.reduceToNat, Nat.reduceSub, Int.reduceLE, q0, q3, q4, q5, hlt, ho, endK, rsC, rsV, resV]
    exact ⟨⟨os, hm, by omega⟩, hs, hk, hid2⟩
end
end Go.Vm

/- Drawn records of a sender: whatever is drawn, it is of bounded size. -/
namespace Go.Vm
set_option linter.unusedVariables false
set_option linter.unusedSimpArgs false
def DrawPost (H : AH) (v : AV) (H' : AH) : Prop := ∃ (s c fl : Int) (ov : AV) (os : List Opt), v = .tp [.i .i64 s, .i .i64 c, .i .i64 fl, ov] ∧ Sx H' eO ov os ∧ os.length + tot' wO os ≤ 1048576 ∧ Ext H H'
def T_draw (C : Tab) (f : Nat) : Prop := ∀ (a : AV) (l : List UInt8) (H : AH), Byt H a l → l.length ≤ 1099511627776 → ∃ v H', C f [a] H = some (v, H') ∧ DrawPost H v H'
theorem rep_enc (n : Nat) : List.replicate n (AV.i .u8 0) = encB (List.replicate n 0) := by simp [encB]
theorem lit_srcO {t g : Nat} {x : Opt} {L : List Lv} {H : AH} : srcV ⟨⟨t, g, 0, [.ag [.i .i64 x.1, .s x.2]]⟩ :: L, g + 1, H⟩ (.ll t g 2 1) = [eO.v x] ∧ srcC ⟨⟨t, g, 0, [.ag [.i .i64 x.1, .s x.2]]⟩ :: L, g + 1, H⟩ 2 (.ll t g 2 1) := by
  simp [srcV, srcC, Mem.getL, Mem.hasL, lookL, eO, Enc.v]
section
variable {C : Tab}
theorem r_draw {a : AV} {l : List UInt8} {H : AH} (hB : T_l01Begin C n_spec_l01Begin) (hN : T_l01Next C n_spec_l01Next) (hO : T_drawOptions C n_spec_l13DrawOptions) (h : Byt H a l) (hl : l.length ≤ 1099511627776) :
    Runs C c_spec_DrawEdnsRecord [a] H (DrawPost H) := by
  unfold Runs c_spec_DrawEdnsRecord
  obtain ⟨v0, H0, k0, ⟨st, rfl⟩, rfl⟩ := hB a l _ h hl
  have hout := h.out
  have hone := h.one
  have ob0 : Obj1 (H0.new (.arr true 0 3 [.ag [.ns, .i .i64 0, .i .u64 0]])) H0.n [.ns, .i .i64 0, .i .u64 0] := Obj1.new (cs := [.ns, .i .i64 0, .i .u64 0])
  have hst : (∀ (L : List Lv) (g : Nat), stC ⟨L, g, H0.new (.arr true 0 3 [.ag [.ns, .i .i64 0, .i .u64 0]])⟩ (.ag [a, .i .i64 0, .i .u64 st]) (.pv H0.n 0)) ∧ ∀ (L : List Lv) (g : Nat), stM ⟨L, g, H0.new (.arr true 0 3 [.ag [.ns, .i .i64 0, .i .u64 0]])⟩ (.ag [a, .i .i64 0, .i .u64 st]) (.pv H0.n 0) = ⟨L, g, (H0.new (.arr true 0 3 [.ag [.ns, .i .i64 0, .i .u64 0]])).set H0.n (.arr true 0 3 [.ag [a, .i .i64 0, .i .u64 st]])⟩ := by
    refine ⟨fun L g => ?_, fun L g => ?_⟩
    · simp only [stC, new_at]
      exact ⟨trivial, trivial, rfl, Nat.le_refl _⟩
    · simp only [stM, new_at]
      rfl
  obtain ⟨st1, st2⟩ := hst
  have e1 : Ext H0 ((H0.new (.arr true 0 3 [.ag [.ns, .i .i64 0, .i .u64 0]])).set H0.n (.arr true 0 3 [.ag [a, .i .i64 0, .i .u64 st]])) :=
    ⟨by simp [AH.set], fun i hi => by rw [set_ne (by omega), new_old hi]⟩
  have s1 : Src ((H0.new (.arr true 0 3 [.ag [.ns, .i .i64 0, .i .u64 0]])).set H0.n (.arr true 0 3 [.ag [a, .i .i64 0, .i .u64 st]])) H0.n a l :=
    ⟨⟨0, st, ⟨by simp [AH.set], set_at⟩, by omega, by omega⟩, Sl.ext h e1, fun hh => by have := Sl.lt h _ hh; omega⟩
  generalize (H0.new (.arr true 0 3 [.ag [.ns, .i .i64 0, .i .u64 0]])).set H0.n (.arr true 0 3 [.ag [a, .i .i64 0, .i .u64 st]]) = H1 at st1 st2 e1 s1
  obtain ⟨v2, H2, k2, ⟨r2, rfl, b2⟩, s2, f2⟩ := hN H0.n a l 65536 H1 s1 hl (by decide) (by decide)
  obtain ⟨v3, H3, k3, ⟨r3, rfl, b3⟩, s3, f3⟩ := hN H0.n a l 256 H2 s2 hl (by decide) (by decide)
  obtain ⟨v4, H4, k4, ⟨r4, rfl, b4⟩, s4, f4⟩ := hN H0.n a l 65536 H3 s3 hl (by decide) (by decide)
  obtain ⟨ov, H5, k5, ⟨os, m5, t5⟩, s5, f5, i5⟩ := hO H0.n a l H4 s4 hl
  have hid := s4.lt
  obtain ⟨v6, H6, k6, ⟨r, rfl, b6⟩, s6, f6⟩ := hN H0.n a l 16 H5 s5 hl (by decide) (by decide)
  have m6 : Mx H6 eO ov os := f6.mn m5 fun j hj hh => by
    simp only [List.mem_singleton] at hh
    have := i5 j hj
    omega
  have e6 : Ext H0 H6 := Kp.put e1 ((((f2.trans f3).trans f4).trans f5).trans f6) (fun i hi => by simp only [List.mem_singleton] at hi; omega)
  have i6 : ∀ i, i ∈ idA ov → H0.n ≤ i := fun i hi => by have := i5 i hi; omega
  have oo := m6.sl.out
  clear s1 s2 s3 s4 s5 f2 f3 f4 f5 f6 m5 e1 ob0
  have hne : ∀ k : Nat, r ≠ k → ¬ (r : Int) = k := fun k hk h => hk (by omega)
  by_cases r0 : r = 0
  · subst r0
    simp -implicitDefEqProofs only [bU, reduceIte, Nat.reduceEqDiff, reduceCtorEq, implies_true, forall_const, eq_self, Nat.reduceAdd, Nat.reduceLT, bne_self_eq_false, bT, eq_self, true_implies, false_implies, forall_const, if_true, if_false, Int.reduceToNat, Nat.reduceSub, Int.reduceLE, bV, Nat.reduceAdd, Nat.reduceLT, Nat.reduceLeDiff, Nat.reduceLeDiff, pv_faC, pv_faV, k0, st1, st2, k2, k3, k4, k5, k6, hout, hone, oo, Int.ofNat_eq_natCast, Int.natCast_zero, endK, rsC, rsV, resV]
    exact ⟨_, _, _, _, os, rfl, m6.sl, by omega, e6⟩
  by_cases r1 : r = 1
  · subst r1
    simp -implicitDefEqProofs only [bU, reduceIte, Nat.reduceEqDiff, reduceCtorEq, implies_true, forall_const, eq_self, Nat.reduceAdd, Nat.reduceLT, bne_self_eq_false, bT, eq_self, true_implies, false_implies, forall_const, if_true, if_false, Int.reduceToNat, Nat.reduceSub, Int.reduceLE, bV, Nat.reduceAdd, Nat.reduceLT, Nat.reduceLeDiff, Nat.reduceLeDiff, pv_faC, pv_faV, k0, st1, st2, k2, k3, k4, k5, k6, hout, hone, oo, show ((1 : Nat) : Int) = 1 from rfl, Int.reduceEq, endK, rsC, rsV, resV]
    exact ⟨_, _, _, _, os, rfl, m6.sl, by omega, e6⟩
  by_cases r2 : r = 2
  · subst r2
    simp -implicitDefEqProofs only [bU, reduceIte, Nat.reduceEqDiff, reduceCtorEq, implies_true, forall_const, eq_self, Nat.reduceAdd, Nat.reduceLT, bne_self_eq_false, bT, eq_self, true_implies, false_implies, forall_const, if_true, if_false, Int.reduceToNat, Nat.reduceSub, Int.reduceLE, bV, Nat.reduceAdd, Nat.reduceLT, Nat.reduceLeDiff, Nat.reduceLeDiff, pv_faC, pv_faV, k0, st1, st2, k2, k3, k4, k5, k6, hout, hone, oo, show ((2 : Nat) : Int) = 2 from rfl, Int.reduceEq, endK, rsC, rsV, resV]
    exact ⟨_, _, _, _, os, rfl, m6.sl, by omega, e6⟩
  by_cases r3 : r = 3
  · subst r3
    have lit := fun (L : List Lv) (g : Nat) => Mn.ap (z := 2) (by' := 24) m6 (lit_srcO (t := 28) (g := g) (x := (65536, [])) (L := L) (H := H6)) (by simp; omega)
    simp -implicitDefEqProofs only [bU, reduceIte, Nat.reduceEqDiff, reduceCtorEq, implies_true, forall_const, eq_self, Nat.reduceAdd, Nat.reduceLT, bne_self_eq_false, bT, eq_self, true_implies, false_implies, forall_const, if_true, if_false, Int.reduceToNat, Nat.reduceSub, Int.reduceLE, bV, Nat.reduceAdd, Nat.reduceLT, Nat.reduceLeDiff, Nat.reduceLeDiff, pv_faC, pv_faV, k0, st1, st2, k2, k3, k4, k5, k6, hout, hone, oo, show ((3 : Nat) : Int) = 3 from rfl, Int.reduceEq, fillEC, fillE, List.replicate, List.set]
    obtain ⟨p1, o', H7, p2, p3, p4, p5, p6, p7, -⟩ := lit [] 0
    have oo' := (Mn.sl p4).out
    simp -implicitDefEqProofs only [bU, reduceIte, Nat.reduceEqDiff, reduceCtorEq, implies_true, forall_const, eq_self, Nat.reduceAdd, Nat.reduceLT, bne_self_eq_false, p1, p2, p3, oo', endK, rsC, rsV, resV]
    have kp : Kp (idA ov) H6 H7 := ⟨p5, p6⟩
    refine ⟨_, _, _, _, os ++ [(65536, [])], rfl, ?_, ?_, kp.put e6 i6⟩
    · have : Mn H7 2 o' (os.map eO.v ++ [eO.v (65536, [])]) := p4
      unfold Sx; rw [List.map_append]; exact this.sl
    · rw [tot_app']; simp [tot', wO]; omega
  by_cases r4 : r = 4
  · subst r4
    obtain ⟨v7, H7, k7, ⟨r7, rfl, b7⟩, s7, f7⟩ := hN H0.n a l 2 H6 s6 hl (by decide) (by decide)
    have hw : IntKind.i64.wrap (65531 - (r7 : Int)) = ((65531 - r7 : Nat) : Int) := by rw [w64 (by omega) (by omega)]; omega
    have hz : Mb (H7.new (.arr true 0 1 (List.replicate (65531 - r7) (.i .u8 0)))) (.sl H7.n 0 (65531 - r7)) (List.replicate (65531 - r7) 0) := by
      rw [rep_enc]; exact Mb.new2 (by simp)
    obtain ⟨c1, c2⟩ := Byt.cbs hz.sl
    have m7 : Mx (H7.new (.arr true 0 1 (List.replicate (65531 - r7) (.i .u8 0)))) eO ov os := Mn.ext (f7.mn m6 fun j hj hh => by
      simp only [List.mem_singleton] at hh
      have := i5 j hj
      omega) (.new _ _)
    have e7 : Ext H0 (H7.new (.arr true 0 1 (List.replicate (65531 - r7) (.i .u8 0)))) := (f7.put e6 (fun i hi => by simp only [List.mem_singleton] at hi; omega)).trans (.new _ _)
    have lit := fun (L : List Lv) (g : Nat) => Mn.ap (z := 2) (by' := 24) m7 (lit_srcO (t := 38) (g := g) (x := (0, List.replicate (65531 - r7) 0)) (L := L)) (by simp; omega)
    have z1 : (0 : Int) ≤ ((65531 - r7 : Nat) : Int) := by omega
    have z2 : ((65531 - r7 : Nat) : Int) ≤ 281474976710656 := by omega
    have z3 : ((65531 - r7 : Nat) : Int) ≤ 9223372036854775807 := by omega
    have z4 : ((65531 - r7 : Nat) : Int) * ((1 : Nat) : Int) ≤ 281474976710656 := by omega
    simp -implicitDefEqProofs only [bU, reduceIte, Nat.reduceEqDiff, reduceCtorEq, implies_true, forall_const, eq_self, Nat.reduceAdd, Nat.reduceLT, bne_self_eq_false, bT, eq_self, true_implies, false_implies, forall_const, if_true, if_false, Int.reduceToNat, Nat.reduceSub, Int.reduceLE, bV, Nat.reduceAdd, Nat.reduceLT, Nat.reduceLeDiff, Nat.reduceLeDiff, pv_faC, pv_faV, k0, st1, st2, k2, k3, k4, k5, k6, k7, hout, hone, oo, show ((4 : Nat) : Int) = 4 from rfl, Int.reduceEq, hw, z1, z2, z3, z4, toNat_nat, c1, c2, fillEC, fillE, List.replicate_succ, List.replicate_zero, List.set]
    obtain ⟨p1, o', H8, p2, p3, p4, p5, p6, p7, -⟩ := lit [] 0
    have oo' := (Mn.sl p4).out
    simp -implicitDefEqProofs only [bU, reduceIte, Nat.reduceEqDiff, reduceCtorEq, implies_true, forall_const, eq_self, Nat.reduceAdd, Nat.reduceLT, bne_self_eq_false, p1, p2, p3, oo', endK, rsC, rsV, resV]
    have kp : Kp (idA ov) (H7.new (.arr true 0 1 (List.replicate (65531 - r7) (.i .u8 0)))) H8 := ⟨p5, p6⟩
    refine ⟨_, _, _, _, os ++ [(0, List.replicate (65531 - r7) 0)], rfl, ?_, ?_, kp.put e7 i6⟩
    · have : Mn H8 2 o' (os.map eO.v ++ [eO.v (0, List.replicate (65531 - r7) 0)]) := p4
      unfold Sx; rw [List.map_append]; exact this.sl
    · rw [tot_app']; simp [tot', wO]; omega
  by_cases r5 : r = 5
  · subst r5
    obtain ⟨v7, H7, k7, ⟨r7, rfl, b7⟩, s7, f7⟩ := hN H0.n a l 3 H6 s6 hl (by decide) (by decide)
    have hw : IntKind.i64.wrap (65530 + (r7 : Int)) = ((65530 + r7 : Nat) : Int) := by rw [w64 (by omega) (by omega)]; omega
    have hz : Mb (H7.new (.arr true 0 1 (List.replicate (65530 + r7) (.i .u8 0)))) (.sl H7.n 0 (65530 + r7)) (List.replicate (65530 + r7) 0) := by
      rw [rep_enc]; exact Mb.new2 (by simp)
    obtain ⟨c1, c2⟩ := Byt.cbs hz.sl
    have e7 : Ext H0 (H7.new (.arr true 0 1 (List.replicate (65530 + r7) (.i .u8 0)))) := (f7.put e6 (fun i hi => by simp only [List.mem_singleton] at hi; omega)).trans (.new _ _)
    have z1 : (0 : Int) ≤ ((65530 + r7 : Nat) : Int) := by omega
    have z3 : ((65530 + r7 : Nat) : Int) ≤ 9223372036854775807 := by omega
    have z4 : ((65530 + r7 : Nat) : Int) * ((1 : Nat) : Int) ≤ 281474976710656 := by omega
    simp -implicitDefEqProofs only [bU, reduceIte, Nat.reduceEqDiff, reduceCtorEq, implies_true, forall_const, eq_self, Nat.reduceAdd, Nat.reduceLT, bne_self_eq_false, bT, eq_self, true_implies, false_implies, forall_const, if_true, if_false, Int.reduceToNat, Nat.reduceSub, Int.reduceLE, bV, Nat.reduceAdd, Nat.reduceLT, Nat.reduceLeDiff, Nat.reduceLeDiff, pv_faC, pv_faV, k0, st1, st2, k2, k3, k4, k5, k6, k7, hout, hone, oo, show ((5 : Nat) : Int) = 5 from rfl, Int.reduceEq, hw, z1, z3, z4, toNat_nat, c1, c2, fillEC, fillE, List.replicate_succ, List.replicate_zero, List.set, endK, rsC, rsV, resV]
    refine ⟨_, _, _, _, [(0, List.replicate (65530 + r7) 0)], rfl, ?_, by simp [tot', wO]; omega, e7.trans (.new _ _)⟩
    have := Mn.own (H := (H7.new (.arr true 0 1 (List.replicate (65530 + r7) (.i .u8 0)))).new (.arr true 0 2 [eO.v (0, List.replicate (65530 + r7) 0)])) (z := 2) (xs := [eO.v (0, List.replicate (65530 + r7) 0)]) (by simp) new_at
    exact this.sl
  have n0 := hne 0 r0
  have n1 := hne 1 r1
  have n2 := hne 2 r2
  have n3 := hne 3 r3
  have n4 := hne 4 r4
  have n5 := hne 5 r5
  simp only [show ((0 : Nat) : Int) = 0 from rfl, show ((1 : Nat) : Int) = 1 from rfl, show ((2 : Nat) : Int) = 2 from rfl, show ((3 : Nat) : Int) = 3 from rfl, show ((4 : Nat) : Int) = 4 from rfl, show ((5 : Nat) : Int) = 5 from rfl] at n0 n1 n2 n3 n4 n5
  simp -implicitDefEqProofs only [bU, reduceIte, Nat.reduceEqDiff, reduceCtorEq, implies_true, forall_const, eq_self, Nat.reduceAdd, Nat.reduceLT, bne_self_eq_false, bT, eq_self, true_implies, false_implies, forall_const, if_true, if_false, Int.reduceToNat, Nat.reduceSub, Int.reduceLE, bV, Nat.reduceAdd, Nat.reduceLT, Nat.reduceLeDiff, Nat.reduceLeDiff, pv_faC, pv_faV, k0, st1, st2, k2, k3, k4, k5, k6, hout, hone, oo, n0, n1, n2, n3, n4, n5, endK, rsC, rsV, resV]
  exact ⟨_, _, _, _, os, rfl, m6.sl, by omega, e6⟩
end
end Go.Vm

/- The reader of messages: numbers, the head, the reader's steps. -/
namespace Go.Vm
set_option linter.unusedVariables false
set_option linter.unusedSimpArgs false
theorem or_u32 {x y k : Nat} (hy : y < 2 ^ k) (h : x * 2 ^ k + y < 4294967296) : bitw .or .u32 (y : Int) ((x * 2 ^ k : Nat) : Int) = ((x * 2 ^ k + y : Nat) : Int) := by
  have e2 : y ||| x * 2 ^ k = x * 2 ^ k + y := by
    have := Nat.two_pow_add_eq_or_of_lt (i := k) (b := y) hy x
    rw [Nat.mul_comm, Nat.or_comm]; exact this.symm
  unfold bitw
  simp only
  rw [show IntKind.u32.bits = 32 from rfl, BitVec.ofInt_natCast, BitVec.ofInt_natCast, BitVec.toNat_or, BitVec.toNat_ofNat, BitVec.toNat_ofNat, Nat.mod_eq_of_lt (by omega), Nat.mod_eq_of_lt (by omega), e2, IntKind.wrap_u32]
  omega
theorem and_low {n k : Nat} (hn : n < 9223372036854775808) (hk : k ≤ 32) : bitw .and .i64 (n : Int) ((2 ^ k - 1 : Nat) : Int) = ((n % 2 ^ k : Nat) : Int) := by
  have hp : 2 ^ k ≤ 2 ^ 32 := Nat.pow_le_pow_right (by decide) hk
  have h0 : 0 < 2 ^ k := Nat.pow_pos (by decide)
  have hm : n % 2 ^ k < 2 ^ k := Nat.mod_lt _ h0
  generalize hP : 2 ^ k = p at *
  unfold bitw
  simp only
  rw [show IntKind.i64.bits = 64 from rfl, BitVec.ofInt_natCast, BitVec.ofInt_natCast, BitVec.toNat_and, BitVec.toNat_ofNat, BitVec.toNat_ofNat, Nat.mod_eq_of_lt (by omega), Nat.mod_eq_of_lt (by omega), ← hP, Nat.and_two_pow_sub_one_eq_mod, hP, w64 (by omega) (by omega)]
theorem num4 {a b c d : UInt8} : num [a, b, c, d] 0 = ((a.toNat * 256 + b.toNat) * 256 + c.toNat) * 256 + d.toNat := by simp [num]
theorem be4 (a b c d : Nat) : a * 2 ^ 24 + (b * 2 ^ 16 + (c * 2 ^ 8 + d)) = ((a * 256 + b) * 256 + c) * 256 + d := by omega
def T_Uint32 (C : Tab) (f : Nat) : Prop := ∀ (x a : AV) (l : List UInt8) (H : AH), x.outs = true → Byt H a l → l.length = 4 → C f [x, a] H = some (.i .u32 (num l 0 : Nat), H)
def T_u32 (C : Tab) (f : Nat) : Prop := ∀ (d : List UInt8) (H : AH), 4 ≤ d.length → ∃ v H', C f [.s d] H = some (v, H') ∧ v = .i .i64 (num (d.take 4) 0 : Nat) ∧ Ext H H'
def bitN (n k : Nat) : Bool := decide (n / 2 ^ k % 2 = 1)
def T_bit (C : Tab) (f : Nat) : Prop := ∀ (n k : Nat) (H : AH), n < 9223372036854775808 → k ≤ 62 → C f [.i .i64 n, .i .u64 k] H = some (.b (bitN n k), H)
section
variable {C : Tab}
theorem r_bit {n k : Nat} {H : AH} (hn : n < 9223372036854775808) (hk : k ≤ 62) : Runs C c_impl_bit [.i .i64 n, .i .u64 k] H fun v H' => H' = H ∧ v = .b (bitN n k) := by
  unfold Runs c_impl_bit
  have k0 : (0 : Int) ≤ k := by omega
  have hm : min (k : Int).toNat IntKind.i64.bits = k := by
    rw [show IntKind.i64.bits = 64 from rfl]; omega
  have v : (n : Int).fdiv (2 ^ (min (k : Int).toNat IntKind.i64.bits)) = ((n / 2 ^ k : Nat) : Int) := by rw [hm]; exact fdiv_nat n k
  have hd : n / 2 ^ k ≤ n := Nat.div_le_self _ _
  have a : bitw .and .i64 ((n / 2 ^ k : Nat) : Int) 1 = ((n / 2 ^ k % 2 : Nat) : Int) := and_low (k := 1) (by omega) (by decide)
  simp -implicitDefEqProofs only [bU, reduceIte, Nat.reduceEqDiff, reduceCtorEq, implies_true, forall_const, eq_self, Nat.reduceAdd, Nat.reduceLT, bne_self_eq_false, bT, eq_self, true_implies, false_implies, forall_const, if_true, if_false, Int.reduceToNat, Nat.reduceSub, Int.reduceLE, k0, v, a, endK, rsC, rsV, resV]
  unfold bitN
  congr 1
  exact propext (by omega)
theorem r_Uint32 {x a : AV} {l : List UInt8} {H : AH} (hx : x.outs = true) (h : Byt H a l) (hl : l.length = 4) : Runs C c_binary_bigEndian_Uint32 [x, a] H fun v H' => H' = H ∧ v = .i .u32 (num l 0 : Nat) := by
  unfold Runs c_binary_bigEndian_Uint32
  obtain ⟨b0, b1, b2, b3, rfl⟩ : ∃ b0 b1 b2 b3, l = [b0, b1, b2, b3] := by
    match l, hl with
    | [b0, b1, b2, b3], _ => exact ⟨b0, b1, b2, b3, rfl⟩
  have oo := h.out
  have i3 := fun (L : List Lv) (g : Nat) => h.ia (j := 3) (by omega) (by simp) L g
  have i2 := fun (L : List Lv) (g : Nat) => h.ia (j := 2) (by omega) (by simp) L g
  have i1 := fun (L : List Lv) (g : Nat) => h.ia (j := 1) (by omega) (by simp) L g
  have i0 := fun (L : List Lv) (g : Nat) => h.ia (j := 0) (by omega) (by simp) L g
  simp only [List.getD_cons_succ, List.getD_cons_zero, Int.reduceToNat] at i3 i2 i1 i0
  obtain ⟨z1, z3, -⟩ := i3 [] 0
  obtain ⟨-, z2, -⟩ := i2 [] 0
  obtain ⟨-, zb, -⟩ := i1 [] 0
  obtain ⟨-, za, -⟩ := i0 [] 0
  have l0 := b0.toNat_lt; have l1 := b1.toNat_lt; have l2 := b2.toNat_lt; have l3 := b3.toNat_lt
  have w0 : IntKind.u32.wrap (b0.toNat : Int) = b0.toNat := by rw [IntKind.wrap_u32]; omega
  have w1 : IntKind.u32.wrap (b1.toNat : Int) = b1.toNat := by rw [IntKind.wrap_u32]; omega
  have w2 : IntKind.u32.wrap (b2.toNat : Int) = b2.toNat := by rw [IntKind.wrap_u32]; omega
  have w3 : IntKind.u32.wrap (b3.toNat : Int) = b3.toNat := by rw [IntKind.wrap_u32]; omega
  have v2 : IntKind.u32.wrap ((b2.toNat : Int) * 2 ^ (min 8 IntKind.u32.bits)) = ((b2.toNat * 2 ^ 8 : Nat) : Int) := by rw [IntKind.wrap_u32, show (2 : Int) ^ (min 8 IntKind.u32.bits) = 256 from by decide]; omega
  have v1 : IntKind.u32.wrap ((b1.toNat : Int) * 2 ^ (min 16 IntKind.u32.bits)) = ((b1.toNat * 2 ^ 16 : Nat) : Int) := by rw [IntKind.wrap_u32, show (2 : Int) ^ (min 16 IntKind.u32.bits) = 65536 from by decide]; omega
  have v0 : IntKind.u32.wrap ((b0.toNat : Int) * 2 ^ (min 24 IntKind.u32.bits)) = ((b0.toNat * 2 ^ 24 : Nat) : Int) := by rw [IntKind.wrap_u32, show (2 : Int) ^ (min 24 IntKind.u32.bits) = 16777216 from by decide]; omega
  have o2 := or_u32 (x := b2.toNat) (y := b3.toNat) (k := 8) (by omega) (by omega)
  have o1 := or_u32 (x := b1.toNat) (y := b2.toNat * 2 ^ 8 + b3.toNat) (k := 16) (by omega) (by omega)
  have o0 := or_u32 (x := b0.toNat) (y := b1.toNat * 2 ^ 16 + (b2.toNat * 2 ^ 8 + b3.toNat)) (k := 24) (by omega) (by omega)
  simp -implicitDefEqProofs only [bU, reduceIte, Nat.reduceEqDiff, reduceCtorEq, implies_true, forall_const, eq_self, Nat.reduceAdd, Nat.reduceLT, bne_self_eq_false, bT, eq_self, true_implies, false_implies, forall_const, if_true, if_false, Int.reduceToNat, Nat.reduceSub, Int.reduceLE, bV, Nat.reduceAdd, Nat.reduceLT, Nat.reduceLeDiff, Nat.reduceLeDiff, hx, oo, z1, z2, z3, za, zb, i3, i2, i1, i0, w0, w1, w2, w3, v0, v1, v2, o2, o1, o0, endK, rsC, rsV, resV]
  rw [num4]
  rw [be4]
theorem r_u32 {d : List UInt8} {H : AH} (hU : T_Uint32 C n_binary_bigEndian_Uint32) (hd : 4 ≤ d.length) : Runs C c_impl_u32 [.s d] H fun v H' => v = .i .i64 (num (d.take 4) 0 : Nat) ∧ Ext H H' := by
  unfold Runs c_impl_u32
  have h4 : (4 : Int) ≤ d.length := by omega
  have hb : Byt (H.new (.arr true 0 1 (encB (d.take 4)))) (.sl H.n 0 (d.take 4).length) (d.take 4) := by have := Mb.new2 (H := H) (l := d.take 4) rfl; exact this.sl
  have hk := hU (.ag []) (.sl H.n 0 (d.take 4).length) (d.take 4) _ rfl hb (by simp; omega)
  obtain ⟨a, b, c, e, hl⟩ : ∃ a b c e, d.take 4 = [a, b, c, e] := by
    match d, hd with
    | a :: b :: c :: e :: r, _ => exact ⟨a, b, c, e, rfl⟩
  have hn : num (d.take 4) 0 < 4294967296 := by
    rw [hl, num4]
    have l0 := a.toNat_lt; have l1 := b.toNat_lt; have l2 := c.toNat_lt; have l3 := e.toNat_lt
    omega
  have w : IntKind.i64.wrap ((num (d.take 4) 0 : Nat) : Int) = (num (d.take 4) 0 : Nat) := w64 (by omega) (by omega)
  simp -implicitDefEqProofs only [bU, reduceIte, Nat.reduceEqDiff, reduceCtorEq, implies_true, forall_const, eq_self, Nat.reduceAdd, Nat.reduceLT, bne_self_eq_false, bT, eq_self, true_implies, false_implies, forall_const, if_true, if_false, Int.reduceToNat, Nat.reduceSub, Int.reduceLE, lgAt, isRd, pv_ldC0, pv_ldX0, h4, Int.reduceToNat, Nat.sub_zero, hk, w, endK, rsC, rsV, resV]
  exact .new _ _
end
end Go.Vm

/- Data of records: the program's map of types. -/
namespace Go.Vm
set_option linter.unusedVariables false
set_option linter.unusedSimpArgs false
/-- The types of a map. -/
def bitTs (base : Nat) (b : UInt8) (j : Nat) : List Nat := if b.toNat / 2 ^ (7 - j) % 2 = 1 then [base + j] else []
def byteTs (base : Nat) (b : UInt8) (n : Nat) : List Nat := (List.range n).flatMap (bitTs base b)
def winTs (w : Nat) (r : List UInt8) (n : Nat) : List Nat := (List.range n).flatMap fun k => byteTs (256 * w + 8 * k) (r.getD k 0) 8
def mapTs (s : List UInt8) : List Nat := match s with
  | [] => []
  | [_] => []
  | w :: n :: r => winTs w.toNat r n.toNat ++ mapTs (r.drop n.toNat)
termination_by s.length
decreasing_by simp; omega
theorem byteTs_succ (base : Nat) (b : UInt8) (n : Nat) : byteTs base b (n + 1) = byteTs base b n ++ bitTs base b n := by simp [byteTs, List.range_succ]
theorem winTs_succ (w : Nat) (r : List UInt8) (n : Nat) : winTs w r (n + 1) = winTs w r n ++ byteTs (256 * w + 8 * n) (r.getD n 0) 8 := by simp [winTs, List.range_succ]
theorem byteTs_len (base : Nat) (b : UInt8) : ∀ n, (byteTs base b n).length ≤ n
  | 0 => by simp [byteTs]
  | n + 1 => by
    have := byteTs_len base b n
    rw [byteTs_succ, List.length_append]
    unfold bitTs
    split <;> simp <;> omega
theorem winTs_len (w : Nat) (r : List UInt8) : ∀ n, (winTs w r n).length ≤ 8 * n
  | 0 => by simp [winTs]
  | n + 1 => by
    have := winTs_len w r n
    have := byteTs_len (256 * w + 8 * n) (r.getD n 0) 8
    rw [winTs_succ, List.length_append]
    omega
theorem mapTs_at {s : List UInt8} (h : 2 ≤ s.length) : mapTs s = winTs (s.getD 0 0).toNat (s.drop 2) (s.getD 1 0).toNat ++ mapTs (s.drop ((s.getD 1 0).toNat + 2)) := by
  match s, h with
  | w :: n :: r, _ =>
    rw [mapTs]
    rfl
abbrev ints (l : List Nat) : List AV := l.map fun (n : Nat) => AV.i .i64 (n : Int)
def MapPost (s : List UInt8) (H : AH) (v : AV) (H' : AH) : Prop := Ext H H' ∧ if mapOk s (-1) then ∃ o, v = .tp [o, .i .i64 0] ∧ Mn H' 1 o (ints (mapTs s)) ∧ ∀ i, i ∈ idA o → H.n ≤ i else v = .tp [.ns, .i .i64 7]
def T_MapTypes (C : Tab) (f : Nat) : Prop := ∀ (s : List UInt8) (H : AH), s.length ≤ 1099511627776 → ∃ v H', C f [.s s] H = some (v, H') ∧ MapPost s H v H'
theorem lit_srcI {t g : Nat} {x : Int} {L : List Lv} {H : AH} : srcV ⟨⟨t, g, 0, [.i .i64 x]⟩ :: L, g + 1, H⟩ (.ll t g 1 1) = [AV.i .i64 x] ∧ srcC ⟨⟨t, g, 0, [.i .i64 x]⟩ :: L, g + 1, H⟩ 1 (.ll t g 1 1) := lit_src
theorem and_u8 {n : Nat} (h : n < 256) : bitw .and .u8 (n : Int) 1 = ((n % 2 : Nat) : Int) := by
  unfold bitw
  simp only
  rw [show IntKind.u8.bits = 8 from rfl, show (1 : Int) = ((1 : Nat) : Int) from rfl, BitVec.ofInt_natCast, BitVec.ofInt_natCast, BitVec.toNat_and, BitVec.toNat_ofNat, BitVec.toNat_ofNat, Nat.mod_eq_of_lt (by omega), Nat.mod_eq_of_lt (by omega), Nat.and_one_is_mod, IntKind.wrap_u8]
  omega
section
variable {C : Tab}
set_option maxHeartbeats 1000000 in
theorem r_MapTypes {s : List UInt8} {H : AH} (hs : s.length ≤ 1099511627776) : Runs C c_impl_MapTypes [.s s] H (MapPost s H) := by
  unfold Runs c_impl_MapTypes
  simp -implicitDefEqProofs only [bU, reduceIte, Nat.reduceEqDiff, reduceCtorEq, implies_true, forall_const, eq_self, Nat.reduceAdd, Nat.reduceLT, bne_self_eq_false, bT, eq_self, true_implies, false_implies, forall_const, if_true, if_false, Int.reduceToNat, Nat.reduceSub, Int.reduceLE]
  refine exec_loop (fun n e M => ∃ (i : Nat) (last : Int) (acc : List Nat) (o : AV) (H' : AH) (L : List Lv) (g : Nat), i ≤ s.length ∧ n = s.length - i ∧ look e 0 = .s s ∧ look e 4 = o ∧ look e 5 = .i .i64 last ∧ look e 6 = .i .i64 i ∧ M = ⟨L, g, H'⟩ ∧ acc.length ≤ 8 * i ∧ Mn H' 1 o (ints acc) ∧ Ext H H' ∧ (∀ j, j ∈ idA o → H.n ≤ j) ∧ mapOk s (-1) = mapOk (s.drop i) last ∧ (mapTs s = acc ++ mapTs (s.drop i))) ?_ (n := s.length)
    ⟨0, -1, [], .ns, H, _, _, by omega, by omega, rfl, rfl, rfl, rfl, rfl, by simp, .nil, .refl _, by simp [idA], rfl, rfl⟩
  rintro n e M ⟨i, last, acc, o, H', L, g, hi, rfl, q0, q4, q5, q6, rfl, hacc, hm, he, hid, hok, hts⟩
  have ho := hm.sl.out
  by_cases hlt : (i : Int) < s.length
  · have w2 : IntKind.i64.wrap ((i : Int) + 2) = ((i + 2 : Nat) : Int) := by rw [w64 (by omega) (by omega)]; rfl
    by_cases h2 : (s.length : Int) < ((i + 2 : Nat) : Int)
    · have hf : mapOk (s.drop i) last = false := by
        rw [mapOk_short (by rw [List.length_drop]; omega)]
        exact decide_eq_false fun h => by
          have := congrArg List.length h
          simp at this
          omega
      rw [hf] at hok
      simp -implicitDefEqProofs only [bU, reduceIte, Nat.reduceEqDiff, reduceCtorEq, implies_true, forall_const, eq_self, Nat.reduceAdd, Nat.reduceLT, bne_self_eq_false, bT, eq_self, true_implies, false_implies, forall_const, if_true, if_false, Int.reduceToNat, Nat.reduceSub, Int.reduceLE, q0, q4, q5, q6, hlt, w2, h2, endK, rsC, rsV, resV]
      exact ⟨he, by simp [hok]⟩
    · have hl2 : 2 ≤ (s.drop i).length := by simp; omega
      rw [mapOk_at hl2] at hok
      rw [mapTs_at hl2] at hts
      have p0 : (0 : Int) ≤ i := by omega
      have p1 : (0 : Int) ≤ ((i + 1 : Nat) : Int) := by omega
      have p2 : ((i + 1 : Nat) : Int) < s.length := by omega
      have w1 : IntKind.i64.wrap ((i : Int) + 1) = ((i + 1 : Nat) : Int) := by rw [w64 (by omega) (by omega)]; rfl
      simp only [getD_drop, Nat.add_zero, List.length_drop, List.drop_drop] at hok hts
      obtain ⟨w, hw⟩ : ∃ w, s.getD i 0 = w := ⟨_, rfl⟩
      obtain ⟨n, hn⟩ : ∃ n, s.getD (i + 1) 0 = n := ⟨_, rfl⟩
      simp only [hw, hn] at hok hts
      have hwb := w.toNat_lt
      have hnb := n.toNat_lt
      have ww := i64b w
      have wn := i64b n
      by_cases a1 : (w.toNat : Int) ≤ last
      · rw [if_pos (.inl a1)] at hok
        simp -implicitDefEqProofs only [bU, reduceIte, Nat.reduceEqDiff, reduceCtorEq, implies_true, forall_const, eq_self, Nat.reduceAdd, Nat.reduceLT, bne_self_eq_false, bT, eq_self, true_implies, false_implies, forall_const, if_true, if_false, Int.reduceToNat, Nat.reduceSub, Int.reduceLE, q0, q4, q5, q6, hlt, w1, w2, h2, p0, p1, p2, toNat_nat, hw, hn, ww, wn, a1, endK, rsC, rsV, resV]
        exact ⟨he, by simp [hok]⟩
      by_cases a2 : (n.toNat : Int) < 1
      · rw [if_pos (.inr (.inl (by omega)))] at hok
        simp -implicitDefEqProofs only [bU, reduceIte, Nat.reduceEqDiff, reduceCtorEq, implies_true, forall_const, eq_self, Nat.reduceAdd, Nat.reduceLT, bne_self_eq_false, bT, eq_self, true_implies, false_implies, forall_const, if_true, if_false, Int.reduceToNat, Nat.reduceSub, Int.reduceLE, q0, q4, q5, q6, hlt, w1, w2, h2, p0, p1, p2, toNat_nat, hw, hn, ww, wn, a1, a2, endK, rsC, rsV, resV]
        exact ⟨he, by simp [hok]⟩
      by_cases a3 : (32 : Int) < (n.toNat : Int)
      · rw [if_pos (.inr (.inr (.inl (by omega))))] at hok
        simp -implicitDefEqProofs only [bU, reduceIte, Nat.reduceEqDiff, reduceCtorEq, implies_true, forall_const, eq_self, Nat.reduceAdd, Nat.reduceLT, bne_self_eq_false, bT, eq_self, true_implies, false_implies, forall_const, if_true, if_false, Int.reduceToNat, Nat.reduceSub, Int.reduceLE, q0, q4, q5, q6, hlt, w1, w2, h2, p0, p1, p2, toNat_nat, hw, hn, ww, wn, a1, a2, a3, endK, rsC, rsV, resV]
        exact ⟨he, by simp [hok]⟩
      have w3 : IntKind.i64.wrap (((i + 2 : Nat) : Int) + (n.toNat : Int)) = ((i + 2 + n.toNat : Nat) : Int) := by rw [w64 (by omega) (by omega)]; omega
      by_cases a4 : (s.length : Int) < ((i + 2 + n.toNat : Nat) : Int)
      · rw [if_pos (.inr (.inr (.inr (.inl (by omega)))))] at hok
        simp -implicitDefEqProofs only [bU, reduceIte, Nat.reduceEqDiff, reduceCtorEq, implies_true, forall_const, eq_self, Nat.reduceAdd, Nat.reduceLT, bne_self_eq_false, bT, eq_self, true_implies, false_implies, forall_const, if_true, if_false, Int.reduceToNat, Nat.reduceSub, Int.reduceLE, q0, q4, q5, q6, hlt, w1, w2, w3, h2, p0, p1, p2, toNat_nat, hw, hn, ww, wn, a1, a2, a3, a4, endK, rsC, rsV, resV]
        exact ⟨he, by simp [hok]⟩
      have w4 : IntKind.i64.wrap (((i + 1 : Nat) : Int) + (n.toNat : Int)) = ((i + 1 + n.toNat : Nat) : Int) := by rw [w64 (by omega) (by omega)]; omega
      have p3 : (0 : Int) ≤ ((i + 1 + n.toNat : Nat) : Int) := by omega
      have p4 : ((i + 1 + n.toNat : Nat) : Int) < s.length := by omega
      rw [show i + (n.toNat + 1) = i + 1 + n.toNat by omega] at hok
      by_cases a5 : (((s.getD (i + 1 + n.toNat) 0).toNat : Nat) : Int) = 0
      · rw [if_pos (.inr (.inr (.inr (.inr (by omega)))))] at hok
        have a5' := eq_true a5
        simp -implicitDefEqProofs only [bU, reduceIte, Nat.reduceEqDiff, reduceCtorEq, implies_true, forall_const, eq_self, Nat.reduceAdd, Nat.reduceLT, bne_self_eq_false, bT, eq_self, true_implies, false_implies, forall_const, if_true, if_false, Int.reduceToNat, Nat.reduceSub, Int.reduceLE, q0, q4, q5, q6, hlt, w1, w2, w3, w4, h2, p0, p1, p2, p3, p4, toNat_nat, hw, hn, ww, wn, a1, a2, a3, a4, a5', endK, rsC, rsV, resV]
        exact ⟨he, by simp [hok]⟩
      rw [if_neg (by omega), show i + (n.toNat + 2) = i + 2 + n.toNat by omega] at hok
      rw [show i + (n.toNat + 2) = i + 2 + n.toNat by omega] at hts
      simp -implicitDefEqProofs only [bU, reduceIte, Nat.reduceEqDiff, reduceCtorEq, implies_true, forall_const, eq_self, Nat.reduceAdd, Nat.reduceLT, bne_self_eq_false, bT, eq_self, true_implies, false_implies, forall_const, if_true, if_false, Int.reduceToNat, Nat.reduceSub, Int.reduceLE, q0, q4, q5, q6, hlt, w1, w2, w3, w4, h2, p0, p1, p2, p3, p4, toNat_nat, hw, hn, ww, wn, a1, a2, a3, a4, a5]
      refine exec_loop (fun m e M => ∃ (k : Nat) (acc' : List Nat) (o : AV) (H' : AH) (L : List Lv) (g : Nat), k ≤ n.toNat ∧ m = n.toNat - k ∧ look e 0 = .s s ∧ look e 4 = o ∧ look e 5 = .i .i64 w.toNat ∧ look e 6 = .i .i64 i ∧ look e 7 = .i .i64 w.toNat ∧ look e 8 = .i .i64 n.toNat ∧ look e 9 = .i .i64 k ∧ M = ⟨L, g, H'⟩ ∧ acc' = acc ++ winTs w.toNat (s.drop (i + 2)) k ∧ Mn H' 1 o (ints acc') ∧ Ext H H' ∧ (∀ j, j ∈ idA o → H.n ≤ j)) ?_ (n := n.toNat)
        ⟨0, acc, o, H', _, _, by omega, by omega, rfl, rfl, rfl, rfl, rfl, rfl, rfl, rfl, by simp [winTs], hm, he, hid⟩
      clear hm he hid ho q0 q4 q5 q6
      rintro m e M ⟨k, acc', o, H', L, g, hk, rfl, q0, q4, q5, q6, q7, q8, q9, rfl, hac, hm, he, hid⟩
      have hwl := winTs_len w.toNat (s.drop (i + 2)) k
      by_cases hkn : (k : Int) < n.toNat
      · simp -implicitDefEqProofs only [bU, reduceIte, Nat.reduceEqDiff, reduceCtorEq, implies_true, forall_const, eq_self, Nat.reduceAdd, Nat.reduceLT, bne_self_eq_false, bT, eq_self, true_implies, false_implies, forall_const, if_true, if_false, Int.reduceToNat, Nat.reduceSub, Int.reduceLE, q0, q4, q5, q6, q7, q8, q9, hkn]
        refine exec_loop (fun m e M => ∃ (j : Nat) (o : AV) (H' : AH) (L : List Lv) (g : Nat), j ≤ 8 ∧ m = 8 - j ∧ look e 0 = .s s ∧ look e 4 = o ∧ look e 5 = .i .i64 w.toNat ∧ look e 6 = .i .i64 i ∧ look e 7 = .i .i64 w.toNat ∧ look e 8 = .i .i64 n.toNat ∧ look e 9 = .i .i64 k ∧ look e 10 = .i .i64 j ∧ M = ⟨L, g, H'⟩ ∧ Mn H' 1 o (ints (acc' ++ byteTs (256 * w.toNat + 8 * k) (s.getD (i + 2 + k) 0) j)) ∧ Ext H H' ∧ (∀ j, j ∈ idA o → H.n ≤ j)) ?_ (n := 8)
          ⟨0, o, H', _, _, by omega, by omega, rfl, rfl, rfl, rfl, rfl, rfl, rfl, rfl, rfl, by simpa [byteTs] using hm, he, hid⟩
        clear hm he hid q0 q4 q5 q6 q7 q8 q9
        rintro m e M ⟨j, o, H', L, g, hj, rfl, q0, q4, q5, q6, q7, q8, q9, q10, rfl, hm, he, hid⟩
        have hbl := byteTs_len (256 * w.toNat + 8 * k) (s.getD (i + 2 + k) 0) j
        by_cases hj8 : (j : Int) < 8
        · have u1 : IntKind.i64.wrap (((i + 2 : Nat) : Int) + (k : Int)) = ((i + 2 + k : Nat) : Int) := by rw [w64 (by omega) (by omega)]; omega
          have u2 : (0 : Int) ≤ ((i + 2 + k : Nat) : Int) := by omega
          have u3 : ((i + 2 + k : Nat) : Int) < s.length := by omega
          have u4 : IntKind.i64.wrap (7 - (j : Int)) = ((7 - j : Nat) : Int) := by rw [w64 (by omega) (by omega)]; omega
          have u5 : (0 : Int) ≤ ((7 - j : Nat) : Int) := by omega
          have hb := (s.getD (i + 2 + k) 0).toNat_lt
          have u6 : ((s.getD (i + 2 + k) 0).toNat : Int).fdiv (2 ^ (min (7 - j) IntKind.u8.bits)) = (((s.getD (i + 2 + k) 0).toNat / 2 ^ (7 - j) : Nat) : Int) := by
            rw [show IntKind.u8.bits = 8 from rfl, Nat.min_eq_left (by omega)]
            exact fdiv_nat _ _
          have hdl : (s.getD (i + 2 + k) 0).toNat / 2 ^ (7 - j) ≤ (s.getD (i + 2 + k) 0).toNat := Nat.div_le_self _ _
          have u7 := and_u8 (n := (s.getD (i + 2 + k) 0).toNat / 2 ^ (7 - j)) (by omega)
          have u8 : IntKind.i64.wrap ((j : Int) + 1) = ((j + 1 : Nat) : Int) := by rw [w64 (by omega) (by omega)]; rfl
          by_cases hbit : (((s.getD (i + 2 + k) 0).toNat / 2 ^ (7 - j) % 2 : Nat) : Int) = 1
          · have hbit' := eq_true hbit
            have v1 : IntKind.i64.wrap (256 * (w.toNat : Int)) = ((256 * w.toNat : Nat) : Int) := by rw [w64 (by omega) (by omega)]; omega
            have v2 : IntKind.i64.wrap (8 * (k : Int)) = ((8 * k : Nat) : Int) := by rw [w64 (by omega) (by omega)]; omega
            have v3 : IntKind.i64.wrap (((256 * w.toNat : Nat) : Int) + ((8 * k : Nat) : Int)) = ((256 * w.toNat + 8 * k : Nat) : Int) := by rw [w64 (by omega) (by omega)]; omega
            have v4 : IntKind.i64.wrap (((256 * w.toNat + 8 * k : Nat) : Int) + (j : Int)) = ((256 * w.toNat + 8 * k + j : Nat) : Int) := by rw [w64 (by omega) (by omega)]; omega
            obtain ⟨p1', o', H2, p2', p3', p4', p5', p6', p7', -⟩ := Mn.ap (by' := 8) hm (lit_srcI (t := 87) (g := g) (x := ((256 * w.toNat + 8 * k + j : Nat) : Int)) (L := dropL (keepL [0, 4, 5, 6, 7, 8, 9, 10] L) 87) (H := H')) (by rw [List.length_map, List.length_append, hac, List.length_append]; simp only [List.length_singleton]; omega)
            simp -implicitDefEqProofs only [bU, reduceIte, Nat.reduceEqDiff, reduceCtorEq, implies_true, forall_const, eq_self, Nat.reduceAdd, Nat.reduceLT, bne_self_eq_false, bT, eq_self, true_implies, false_implies, forall_const, if_true, if_false, Int.reduceToNat, Nat.reduceSub, Int.reduceLE, q0, q4, q5, q6, q7, q8, q9, q10, hj8, w2, u1, u2, u3, u4, u5, u6, u7, u8, toNat_nat, hbit', v1, v2, v3, v4, fillEC, fillE, List.replicate, List.set]
            simp -implicitDefEqProofs only [bU, reduceIte, Nat.reduceEqDiff, reduceCtorEq, implies_true, forall_const, eq_self, Nat.reduceAdd, Nat.reduceLT, bne_self_eq_false, p1', p2', p3', u8]
            refine ⟨8 - (j + 1), by omega, j + 1, o', H2, _, _, by omega, rfl, rfl, rfl, rfl, ?_, he.put hid p5' p6', fun x hx => ?_⟩
            · rw [byteTs_succ, bitTs, if_pos (by omega), ← List.append_assoc, ints, List.map_append]
              exact p4'
            · rcases p7' x hx with h | h
              · exact hid x h
              · have := he.n; omega
          · simp -implicitDefEqProofs only [bU, reduceIte, Nat.reduceEqDiff, reduceCtorEq, implies_true, forall_const, eq_self, Nat.reduceAdd, Nat.reduceLT, bne_self_eq_false, bT, eq_self, true_implies, false_implies, forall_const, if_true, if_false, Int.reduceToNat, Nat.reduceSub, Int.reduceLE, q0, q4, q5, q6, q7, q8, q9, q10, hj8, w2, u1, u2, u3, u4, u5, u6, u7, u8, toNat_nat, hbit]
            exact ⟨8 - (j + 1), by omega, j + 1, o, H', _, _, by omega, rfl, rfl, rfl, rfl, by rw [byteTs_succ, bitTs, if_neg (by omega), List.append_nil]; exact hm, he, hid⟩
        · have hje : j = 8 := by omega
          subst hje
          have w9 : IntKind.i64.wrap ((k : Int) + 1) = ((k + 1 : Nat) : Int) := by rw [w64 (by omega) (by omega)]; rfl
          simp -implicitDefEqProofs only [bU, reduceIte, Nat.reduceEqDiff, reduceCtorEq, implies_true, forall_const, eq_self, Nat.reduceAdd, Nat.reduceLT, bne_self_eq_false, bT, eq_self, true_implies, false_implies, forall_const, if_true, if_false, Int.reduceToNat, Nat.reduceSub, Int.reduceLE, q0, q4, q5, q6, q7, q8, q9, q10, hj8, w9]
          refine ⟨n.toNat - (k + 1), by omega, k + 1, _, o, H', _, _, by omega, rfl, rfl, rfl, rfl, ?_, hm, he, hid⟩
          rw [winTs_succ, hac, List.append_assoc, getD_drop]
      · have hke : k = n.toNat := by omega
        subst hke
        have w5 : IntKind.i64.wrap (2 + (n.toNat : Int)) = ((2 + n.toNat : Nat) : Int) := by rw [w64 (by omega) (by omega)]; omega
        have w6 : IntKind.i64.wrap ((i : Int) + ((2 + n.toNat : Nat) : Int)) = ((i + 2 + n.toNat : Nat) : Int) := by rw [w64 (by omega) (by omega)]; omega
        simp -implicitDefEqProofs only [bU, reduceIte, Nat.reduceEqDiff, reduceCtorEq, implies_true, forall_const, eq_self, Nat.reduceAdd, Nat.reduceLT, bne_self_eq_false, bT, eq_self, true_implies, false_implies, forall_const, if_true, if_false, Int.reduceToNat, Nat.reduceSub, Int.reduceLE, q0, q4, q5, q6, q7, q8, q9, hkn, w5, w6]
        refine ⟨s.length - (i + 2 + n.toNat), by omega, i + 2 + n.toNat, _, acc', o, H', _, _, by omega, rfl, rfl, rfl, rfl, rfl, ?_, hm, he, hid, ?_, ?_⟩
        · rw [hac, List.length_append]; omega
        · exact hok
        · rw [hts, hac, List.append_assoc]
  · have hil : i = s.length := by omega
    rw [hil, List.drop_length] at hok hts
    rw [show mapOk [] last = true by rw [mapOk]] at hok
    rw [show mapTs [] = [] by rw [mapTs], List.append_nil] at hts
    simp -implicitDefEqProofs only [bU, reduceIte, Nat.reduceEqDiff, reduceCtorEq, implies_true, forall_const, eq_self, Nat.reduceAdd, Nat.reduceLT, bne_self_eq_false, bT, eq_self, true_implies, false_implies, forall_const, if_true, if_false, Int.reduceToNat, Nat.reduceSub, Int.reduceLE, q0, q4, q5, q6, hlt, ho, endK, rsC, rsV, resV]
    refine ⟨he, ?_⟩
    rw [if_pos hok, hts]
    exact ⟨o, rfl, hm, hid⟩
end
end Go.Vm

/- Data of records: the program's reader of forms. -/
namespace Go.Vm
set_option linter.unusedVariables false
set_option linter.unusedSimpArgs false
/-- An object of one cell. -/
theorem cell_ld {H : AH} {id : Nat} {rw : Bool} {v : AV} (h : H.at' id = .arr rw 0 1 [v]) (hv : v.cells = [v]) : (∀ (L : List Lv) (g : Nat), ldC ⟨L, g, H⟩ none (.pv id 0)) ∧ ∀ (L : List Lv) (g : Nat), ldX ⟨L, g, H⟩ none (.pv id 0) = v := by
  refine ⟨fun L g => ?_, fun L g => ?_⟩
  · simp only [ldC, h]
    exact .inr ⟨trivial, by simp [partFits, flat, hv]⟩
  · show ldV ⟨L, g, H⟩ none (.pv id 0) = _
    simp only [ldV, h, partOf, flat, hv]
    rfl
theorem cell_st {H : AH} {id : Nat} {v w : AV} (h : H.at' id = .arr true 0 1 [v]) (hv : v.cells = [v]) (hw : w.cells = [w]) (ha : ∀ cs, v ≠ .ag cs) : (∀ (L : List Lv) (g : Nat), stC ⟨L, g, H⟩ w (.pv id 0)) ∧ ∀ (L : List Lv) (g : Nat), stM ⟨L, g, H⟩ w (.pv id 0) = ⟨L, g, H.set id (.arr true 0 1 [w])⟩ := by
  refine ⟨fun L g => ?_, fun L g => ?_⟩
  · simp only [stC, h, hv, hw]
    exact ⟨trivial, trivial, rfl, Nat.le_refl _⟩
  · simp only [stM, h]
    rw [setEl_one hw ha]
def eSp : Enc (Nat × Nat) := ⟨2, fun p => [.i .i64 (p.1 : Nat), .i .i64 (p.2 : Nat)], fun _ => rfl⟩
def T_rest (C : Tab) (f : Nat) : Prop := ∀ (i3 i9 at' : Nat) (d : List UInt8) (H : AH), H.at' i3 = .arr true 0 1 [.s d] → H.at' i9 = .arr true 0 1 [.i .i64 (at' : Nat)] → at' ≤ d.length → C f [.pv i3 0, .pv i9 0] H = some (.s (d.drop at'), H)
def alnP : S := sAt c_impl_parsed.s [1, 1, 1, 1, 1, 1, 0, 1, 2, 2, 1, 1, 2, 1, 1, 0, 1, 2, 1, 4, 1, 4, 1, 4, 1, 4, 1, 3, 1, 1, 1, 3, 1, 1, 2, 2, 1, 1, 0, 2, 1, 0]
def swP : S := sAt c_impl_parsed.s [1, 1, 1, 1, 1, 1, 0, 1, 2, 2, 1, 1, 2, 1, 1, 0, 1]
/-- The state of the reader. -/
structure PS (H0 H : AH) (d : List UInt8) (at' : Nat) (o : AV) (sp : List (Nat × Nat)) : Prop where
  d3 : H.at' H0.n = .arr true 0 1 [.s d]
  a9 : H.at' (H0.n + 1) = .arr true 0 1 [.i .i64 (at' : Nat)]
  m : Mx H eSp o sp
  e : Ext H0 H
  i : ∀ j, j ∈ idA o → H0.n + 1 < j
  n : H0.n + 1 < H.n
section
variable {C : Tab}
theorem r_rest {i3 i9 at' : Nat} {d : List UInt8} {H : AH} (h3 : H.at' i3 = .arr true 0 1 [.s d]) (h9 : H.at' i9 = .arr true 0 1 [.i .i64 (at' : Nat)]) (hd : at' ≤ d.length) : Runs C c_impl_parsed_1 [.pv i3 0, .pv i9 0] H fun v H' => H' = H ∧ v = .s (d.drop at') := by
  unfold Runs c_impl_parsed_1
  obtain ⟨a1, a2⟩ := cell_ld h3 rfl
  obtain ⟨b1, b2⟩ := cell_ld h9 rfl
  have z1 : (0 : Int) ≤ at' := by omega
  have z2 : (at' : Int) ≤ d.length := by omega
  have e : (d.drop at').take (d.length - at') = d.drop at' := List.take_of_length_le (by simp)
  simp -implicitDefEqProofs only [bU, reduceIte, Nat.reduceEqDiff, reduceCtorEq, implies_true, forall_const, eq_self, Nat.reduceAdd, Nat.reduceLT, bne_self_eq_false, bT, eq_self, true_implies, false_implies, forall_const, if_true, if_false, Int.reduceToNat, Nat.reduceSub, Int.reduceLE, a1, a2, b1, b2, z1, z2, e, toNat_nat, Int.le_refl, endK, rsC, rsV, resV]
theorem PS.ext {H0 H H' : AH} {d : List UInt8} {at' : Nat} {o : AV} {sp : List (Nat × Nat)} (h : PS H0 H d at' o sp) (he : Ext H H') : PS H0 H' d at' o sp :=
  ⟨(he.at' _ (by have := h.n; omega)).trans h.d3, (he.at' _ h.n).trans h.a9, Mn.ext h.m he, h.e.trans he, h.i, Nat.lt_of_lt_of_le h.n he.n⟩
set_option maxHeartbeats 4000000 in
theorem alnP_run {c : UInt8} {e : Env} {M : Mem} {κ : Kont} (q15 : look e 15 = .i .u8 c.toNat) (hκ : ∀ e', (∀ t, t ∈ [3, 8, 9, 10, 13, 29, 92, 93, 94] → look e' t = look e t) → look e' 120 = .b (!alnum c) → κ .nx e' M) : exec C alnP e M κ := by
  simp only [alnP, c_impl_parsed, sAt]
  have ha : alnum c = ((decide ((48 : Int) ≤ c.toNat) && decide ((c.toNat : Int) ≤ 57)) || (decide ((97 : Int) ≤ c.toNat) && decide ((c.toNat : Int) ≤ 122)) || (decide ((65 : Int) ≤ c.toNat) && decide ((c.toNat : Int) ≤ 90))) := by
    unfold alnum
    rw [Bool.eq_iff_iff]
    simp only [Bool.or_eq_true, Bool.and_eq_true, decide_eq_true_eq]
    omega
  rw [ha] at hκ
  have hl : ∀ e', (∀ t, t ∈ [3, 8, 9, 10, 13, 29, 92, 93, 94] → look e' t = look e t) ↔ (look e' 3 = look e 3 ∧ look e' 8 = look e 8 ∧ look e' 9 = look e 9 ∧ look e' 10 = look e 10 ∧ look e' 13 = look e 13 ∧ look e' 29 = look e 29 ∧ look e' 92 = look e 92 ∧ look e' 93 = look e 93 ∧ look e' 94 = look e 94) := fun e' => by simp
  simp only [hl] at hκ
  by_cases h1 : (48 : Int) ≤ c.toNat <;> by_cases h2 : (c.toNat : Int) ≤ 57 <;> by_cases h3 : (97 : Int) ≤ c.toNat <;> by_cases h4 : (c.toNat : Int) ≤ 122 <;> by_cases h5 : (65 : Int) ≤ c.toNat <;> by_cases h6 : (c.toNat : Int) ≤ 90 <;>
  first
  | (exfalso; omega)
  | (simp -implicitDefEqProofs only [h1, h2, h3, h4, h5, h6, decide_true, decide_false, Bool.false_and, Bool.and_false, Bool.or_false, Bool.or_true, Bool.false_or, Bool.true_or, Bool.and_self, Bool.not_true, Bool.not_false] at hκ
     simp -implicitDefEqProofs only [bU, reduceIte, Nat.reduceEqDiff, reduceCtorEq, implies_true, forall_const, eq_self, Nat.reduceAdd, Nat.reduceLT, bne_self_eq_false, bT, eq_self, true_implies, false_implies, forall_const, if_true, if_false, Int.reduceToNat, Nat.reduceSub, Int.reduceLE, q15, h1, h2, h3, h4, h5, h6]
     exact hκ _ ⟨rfl, rfl, rfl, rfl, rfl, rfl, rfl, rfl, rfl⟩ rfl)
end
end Go.Vm

/- Data of records: one letter of a form, read by the program. -/
namespace Go.Vm
set_option linter.unusedVariables false
set_option linter.unusedSimpArgs false
theorem lit_srcP {t g : Nat} {x : Nat × Nat} {L : List Lv} {H : AH} : srcV ⟨⟨t, g, 0, [.ag [.i .i64 (x.1 : Nat), .i .i64 (x.2 : Nat)]]⟩ :: L, g + 1, H⟩ (.ll t g 2 1) = [eSp.v x] ∧ srcC ⟨⟨t, g, 0, [.ag [.i .i64 (x.1 : Nat), .i .i64 (x.2 : Nat)]]⟩ :: L, g + 1, H⟩ 2 (.ll t g 2 1) := by
  simp [srcV, srcC, Mem.getL, Mem.hasL, lookL, eSp, Enc.v]
theorem all_idx {p : UInt8 → Bool} {q : List UInt8} (h : ∀ j, j < q.length → p (q.getD j 0) = true) : q.all p = true := by
  rw [List.all_eq_true]
  intro x hx
  obtain ⟨i, hi, rfl⟩ := List.getElem_of_mem hx
  have := h i hi
  simpa [List.getD, List.getElem?_eq_getElem hi] using this
theorem not_idx {p : UInt8 → Bool} {q : List UInt8} {j : Nat} (hj : j < q.length) (h : p (q.getD j 0) = false) : q.all p = false := by
  rw [← Bool.not_eq_true, List.all_eq_true]
  intro hh
  have := hh (q.getD j 0) (by simp [List.getD, List.getElem?_eq_getElem hj])
  rw [this] at h
  cases h
theorem tGo_at {s : List UInt8} {i : Nat} (hi : i < s.length) : tGo (s.drop i) = 1 + (s.getD i 0).toNat + tGo (s.drop (i + 1 + (s.getD i 0).toNat)) := by
  have e : s.getD i 0 = s[i] := by simp [List.getD, List.getElem?_eq_getElem hi]
  rw [List.drop_eq_getElem_cons hi, tGo, e, List.drop_drop]
section
variable {C : Tab}
set_option maxHeartbeats 4000000 in
theorem swP_run {f : UInt8} {d : List UInt8} {at' : Nat} {o : AV} {sp : List (Nat × Nat)} {e : Env} {L : List Lv} {g : Nat} {H0 H : AH} {κ : Kont} (hR : T_rest C n_impl_parsed_1) (hN : T_nmI C n_impl_nameAt) (hM : T_MapTypes C n_impl_MapTypes)
    (hf : f ∈ ([49, 50, 52, 103, 113, 110, 116, 99, 84, 109, 42] : List UInt8)) (q3 : look e 3 = .pv H0.n 0) (q8 : look e 8 = o) (q9 : look e 9 = .pv (H0.n + 1) 0) (q10 : look e 10 = .fn n_impl_parsed_1 [.pv H0.n 0, .pv (H0.n + 1) 0])
    (q12 : look e 12 = .i .i32 f.toNat) (q13 : look e 13 = .i .i64 (-1)) (q33 : look e 33 = .i .i32 f.toNat) (hd : d.length ≤ 1099511627776) (hp : at' ≤ d.length) (hsp : sp.length ≤ 1000) (hS : PS H0 H d at' o sp)
    (hκ1 : ∀ e' L' g' H2 o' n, (look e' 3 = look e 3 ∧ look e' 9 = look e 9 ∧ look e' 10 = look e 10 ∧ look e' 29 = look e 29) → look e' 8 = o' → look e' 13 = .i .i64 ((n : Nat) : Int) → keepL [3, 8, 9, 10, 29] L' = keepL [3, 8, 9, 10, 29] L → ilen f (d.drop at') = some n → PS H0 H2 d at' o' (if f = 110 then sp ++ [(at', at' + n)] else sp) → κ .nx e' ⟨L', g', H2⟩)
    (hκ2 : ∀ e' L' g' H2, look e' 4 = .ns → look e' 5 = .b false → Ext H0 H2 → (ilen f (d.drop at') = none ∨ ∃ n, ilen f (d.drop at') = some n ∧ d.length - at' < n) → κ .rt e' ⟨L', g', H2⟩) : exec C swP e ⟨L, g, H⟩ κ := by
  obtain ⟨a1, a2⟩ := cell_ld hS.a9 rfl
  obtain ⟨b1, b2⟩ := cell_ld hS.d3 rfl
  have hrl : (d.drop at').length = d.length - at' := List.length_drop
  have hfn : (∃ f' cs, AV.fn n_impl_parsed_1 [.pv H0.n 0, .pv (H0.n + 1) 0] = AV.fn f' cs) := ⟨_, _, rfl⟩
  have kR := hR _ _ _ _ _ hS.d3 hS.a9 hp
  have hnn : ∀ l : List AV, [] ++ l = l := fun _ => rfl
  simp only [List.mem_cons, List.not_mem_nil, or_false] at hf
  rcases hf with rfl | rfl | rfl | rfl | rfl | rfl | rfl | rfl | rfl | rfl | rfl
  · have c0 : ((49 : UInt8).toNat : Int) = 49 := rfl
    rw [c0] at q33
    simp only [swP, c_impl_parsed, sAt]
    simp -implicitDefEqProofs only [bU, reduceIte, Nat.reduceEqDiff, reduceCtorEq, implies_true, forall_const, eq_self, Nat.reduceAdd, Nat.reduceLT, bne_self_eq_false, bT, eq_self, true_implies, false_implies, forall_const, if_true, if_false, Int.reduceToNat, Nat.reduceSub, Int.reduceLE, q33, Int.reduceEq]
    exact hκ1 _ _ _ _ o 1 ⟨rfl, rfl, rfl, rfl⟩ q8 rfl rfl rfl hS
  · have c0 : ((50 : UInt8).toNat : Int) = 50 := rfl
    rw [c0] at q33
    simp only [swP, c_impl_parsed, sAt]
    simp -implicitDefEqProofs only [bU, reduceIte, Nat.reduceEqDiff, reduceCtorEq, implies_true, forall_const, eq_self, Nat.reduceAdd, Nat.reduceLT, bne_self_eq_false, bT, eq_self, true_implies, false_implies, forall_const, if_true, if_false, Int.reduceToNat, Nat.reduceSub, Int.reduceLE, q33, Int.reduceEq]
    exact hκ1 _ _ _ _ o 2 ⟨rfl, rfl, rfl, rfl⟩ q8 rfl rfl rfl hS
  · have c0 : ((52 : UInt8).toNat : Int) = 52 := rfl
    rw [c0] at q33
    simp only [swP, c_impl_parsed, sAt]
    simp -implicitDefEqProofs only [bU, reduceIte, Nat.reduceEqDiff, reduceCtorEq, implies_true, forall_const, eq_self, Nat.reduceAdd, Nat.reduceLT, bne_self_eq_false, bT, eq_self, true_implies, false_implies, forall_const, if_true, if_false, Int.reduceToNat, Nat.reduceSub, Int.reduceLE, q33, Int.reduceEq]
    exact hκ1 _ _ _ _ o 4 ⟨rfl, rfl, rfl, rfl⟩ q8 rfl rfl rfl hS
  · have c0 : ((103 : UInt8).toNat : Int) = 103 := rfl
    rw [c0] at q33
    simp only [swP, c_impl_parsed, sAt]
    simp -implicitDefEqProofs only [bU, reduceIte, Nat.reduceEqDiff, reduceCtorEq, implies_true, forall_const, eq_self, Nat.reduceAdd, Nat.reduceLT, bne_self_eq_false, bT, eq_self, true_implies, false_implies, forall_const, if_true, if_false, Int.reduceToNat, Nat.reduceSub, Int.reduceLE, q33, Int.reduceEq]
    exact hκ1 _ _ _ _ o 4 ⟨rfl, rfl, rfl, rfl⟩ q8 rfl rfl rfl hS
  · have c0 : ((113 : UInt8).toNat : Int) = 113 := rfl
    rw [c0] at q33
    simp only [swP, c_impl_parsed, sAt]
    simp -implicitDefEqProofs only [bU, reduceIte, Nat.reduceEqDiff, reduceCtorEq, implies_true, forall_const, eq_self, Nat.reduceAdd, Nat.reduceLT, bne_self_eq_false, bT, eq_self, true_implies, false_implies, forall_const, if_true, if_false, Int.reduceToNat, Nat.reduceSub, Int.reduceLE, q33, Int.reduceEq]
    exact hκ1 _ _ _ _ o 4 ⟨rfl, rfl, rfl, rfl⟩ q8 rfl rfl rfl hS
  · have c0 : ((110 : UInt8).toNat : Int) = 110 := rfl
    rw [c0] at q33
    have kN := fun H => hN (d.drop at') H (by omega)
    have e1 : ilen 110 (d.drop at') = if nmAt (d.drop at') = 0 then none else some (nmAt (d.drop at')) := rfl
    have hle := nmAt_le (d.drop at')
    simp only [swP, c_impl_parsed, sAt]
    by_cases h0 : nmAt (d.drop at') = 0
    · have h0' : ((nmAt (d.drop at') : Nat) : Int) = 0 := by omega
      simp -implicitDefEqProofs only [bU, reduceIte, Nat.reduceEqDiff, reduceCtorEq, implies_true, forall_const, eq_self, Nat.reduceAdd, Nat.reduceLT, bne_self_eq_false, bT, eq_self, true_implies, false_implies, forall_const, if_true, if_false, Int.reduceToNat, Nat.reduceSub, Int.reduceLE, q10, q33, Int.reduceEq, hfn, hnn, kR, kN, h0']
      exact hκ2 _ _ _ _ rfl rfl hS.e (.inl (by rw [e1, if_pos h0]))
    · have h0' : ¬ ((nmAt (d.drop at') : Nat) : Int) = 0 := by omega
      have w1 : IntKind.i64.wrap ((at' : Int) + ((nmAt (d.drop at') : Nat) : Int)) = ((at' + nmAt (d.drop at') : Nat) : Int) := by rw [w64 (by omega) (by omega)]; rfl
      have ho := (Mn.sl hS.m).out
      obtain ⟨p1, o', H2, p2, p3, p4, p5, p6, p7, -⟩ := Mn.ap (by' := 16) hS.m (lit_srcP (t := 55) (g := g) (x := (at', at' + nmAt (d.drop at'))) (L := dropL L 55) (H := H)) (by simp; omega)
      simp only [show eSp.z = 2 from rfl] at p1 p3
      simp -implicitDefEqProofs only [bU, reduceIte, Nat.reduceEqDiff, reduceCtorEq, implies_true, forall_const, eq_self, Nat.reduceAdd, Nat.reduceLT, bne_self_eq_false, bT, eq_self, true_implies, false_implies, forall_const, if_true, if_false, Int.reduceToNat, Nat.reduceSub, Int.reduceLE, bV, Nat.reduceAdd, Nat.reduceLT, Nat.reduceLeDiff, Nat.reduceLeDiff, q8, q9, q10, q33, Int.reduceEq, hfn, hnn, kR, kN, h0', a1, a2, w1, fillEC, fillE, List.replicate, List.set]
      simp -implicitDefEqProofs only [bU, reduceIte, Nat.reduceEqDiff, reduceCtorEq, implies_true, forall_const, eq_self, Nat.reduceAdd, Nat.reduceLT, bne_self_eq_false, p1, p2, p3]
      refine hκ1 _ _ _ _ o' (nmAt (d.drop at')) ⟨rfl, rfl, rfl, rfl⟩ rfl rfl ?_ (by rw [e1, if_neg h0]) ?_
      · rw [keep_new rfl, keep_drop rfl]
      · rw [if_pos rfl]
        have he2 : ∀ j, j ≤ H0.n + 1 → H2.at' j = H.at' j := fun j hj => p6 j (by have := hS.n; omega) fun hh => by have := hS.i j hh; omega
        refine ⟨(he2 _ (by omega)).trans hS.d3, (he2 _ (by omega)).trans hS.a9, ?_, hS.e.put (fun j hj => by have := hS.i j hj; omega) p5 p6, fun j hj => ?_, Nat.lt_of_lt_of_le hS.n p5⟩
        · show Mn H2 eSp.z o' _
          rw [List.map_append]; exact p4
        · rcases p7 j hj with h | h
          · exact hS.i j h
          · have := hS.n; omega
  · have c0 : ((116 : UInt8).toNat : Int) = 116 := rfl
    rw [c0] at q33 q12
    have e1 : ilen 116 (d.drop at') = if (d.drop at') = [] then none else some (((d.drop at').getD 0 0).toNat + 1) := rfl
    simp only [swP, c_impl_parsed, sAt]
    by_cases h0 : (d.length : Int) ≤ at'
    · simp -implicitDefEqProofs only [bU, reduceIte, Nat.reduceEqDiff, reduceCtorEq, implies_true, forall_const, eq_self, Nat.reduceAdd, Nat.reduceLT, bne_self_eq_false, bT, eq_self, true_implies, false_implies, forall_const, if_true, if_false, Int.reduceToNat, Nat.reduceSub, Int.reduceLE, q3, q9, q33, Int.reduceEq, a1, a2, b1, b2, h0]
      exact hκ2 _ _ _ _ rfl rfl hS.e (.inl (by rw [e1, if_pos (List.drop_of_length_le (by omega))]))
    · have z1 : (0 : Int) ≤ at' := by omega
      have z2 : (at' : Int) < d.length := by omega
      have hb := (d.getD at' 0).toNat_lt
      have w0 := i64b (d.getD at' 0)
      have w1 : IntKind.i64.wrap (1 + ((d.getD at' 0).toNat : Int)) = (((d.getD at' 0).toNat + 1 : Nat) : Int) := by rw [w64 (by omega) (by omega)]; omega
      simp -implicitDefEqProofs only [bU, reduceIte, Nat.reduceEqDiff, reduceCtorEq, implies_true, forall_const, eq_self, Nat.reduceAdd, Nat.reduceLT, bne_self_eq_false, bT, eq_self, true_implies, false_implies, forall_const, if_true, if_false, Int.reduceToNat, Nat.reduceSub, Int.reduceLE, q3, q9, q12, q33, Int.reduceEq, a1, a2, b1, b2, h0, z1, z2, w0, w1, toNat_nat]
      refine hκ1 _ _ _ _ o _ ⟨rfl, rfl, rfl, rfl⟩ q8 rfl rfl ?_ hS
      rw [e1, if_neg (fun hh => by have := congrArg List.length hh; simp at this; omega)]
      simp only [getD_drop, Nat.add_zero]
  · have c0 : ((99 : UInt8).toNat : Int) = 99 := rfl
    rw [c0] at q33 q12
    have e1 : ilen 99 (d.drop at') = if (d.drop at') = [] ∨ ((d.drop at').getD 0 0).toNat + 1 < 2 ∨ 16 < ((d.drop at').getD 0 0).toNat + 1 ∨ (d.drop at').length < ((d.drop at').getD 0 0).toNat + 1 ∨ ((((d.drop at').drop 1).take ((d.drop at').getD 0 0).toNat).all alnum) = false then none else some (((d.drop at').getD 0 0).toNat + 1) := rfl
    simp only [getD_drop, Nat.add_zero, hrl, List.drop_drop] at e1
    obtain ⟨B, hB, hs⟩ : ∃ B, B = sAt swP [2, 1, 4, 1, 4, 1, 4, 1, 4, 1, 3, 1, 1, 1, 3, 1, 1, 2, 2, 1, 1, 0, 2, 1, 0] ∧ swP = sPut swP [2, 1, 4, 1, 4, 1, 4, 1, 4, 1, 3, 1, 1, 1, 3, 1, 1, 2, 2, 1, 1, 0, 2, 1, 0] B := ⟨_, rfl, (put_at _ _).symm⟩
    have hB' : B = alnP := hB.trans rfl
    rw [hs]
    simp only [swP, c_impl_parsed, sAt, sPut]
    by_cases h0 : (d.length : Int) ≤ at'
    · simp -implicitDefEqProofs only [bU, reduceIte, Nat.reduceEqDiff, reduceCtorEq, implies_true, forall_const, eq_self, Nat.reduceAdd, Nat.reduceLT, bne_self_eq_false, bT, eq_self, true_implies, false_implies, forall_const, if_true, if_false, Int.reduceToNat, Nat.reduceSub, Int.reduceLE, q3, q9, q33, Int.reduceEq, a1, a2, b1, b2, h0]
      exact hκ2 _ _ _ _ rfl rfl hS.e (.inl (by rw [e1, if_pos (.inl (List.drop_of_length_le (by omega)))]))
    · have z1 : (0 : Int) ≤ at' := by omega
      have z2 : (at' : Int) < d.length := by omega
      have hb := (d.getD at' 0).toNat_lt
      have w0 := i64b (d.getD at' 0)
      obtain ⟨b, hbb⟩ : ∃ b, (d.getD at' 0).toNat = b := ⟨_, rfl⟩
      rw [hbb] at e1 w0 hb
      have w1 : IntKind.i64.wrap (1 + (b : Int)) = ((b + 1 : Nat) : Int) := by rw [w64 (by omega) (by omega)]; omega
      by_cases h1 : ((b + 1 : Nat) : Int) < 2
      · simp -implicitDefEqProofs only [bU, reduceIte, Nat.reduceEqDiff, reduceCtorEq, implies_true, forall_const, eq_self, Nat.reduceAdd, Nat.reduceLT, bne_self_eq_false, bT, eq_self, true_implies, false_implies, forall_const, if_true, if_false, Int.reduceToNat, Nat.reduceSub, Int.reduceLE, q3, q9, q12, q33, Int.reduceEq, a1, a2, b1, b2, h0, z1, z2, hbb, w0, w1, toNat_nat, h1]
        exact hκ2 _ _ _ _ rfl rfl hS.e (.inl (by rw [e1, if_pos (.inr (.inl (by omega)))]))
      by_cases h2 : (16 : Int) < ((b + 1 : Nat) : Int)
      · simp -implicitDefEqProofs only [bU, reduceIte, Nat.reduceEqDiff, reduceCtorEq, implies_true, forall_const, eq_self, Nat.reduceAdd, Nat.reduceLT, bne_self_eq_false, bT, eq_self, true_implies, false_implies, forall_const, if_true, if_false, Int.reduceToNat, Nat.reduceSub, Int.reduceLE, q3, q9, q12, q33, Int.reduceEq, a1, a2, b1, b2, h0, z1, z2, hbb, w0, w1, toNat_nat, h1, h2]
        exact hκ2 _ _ _ _ rfl rfl hS.e (.inl (by rw [e1, if_pos (.inr (.inr (.inl (by omega))))]))
      have w2 : IntKind.i64.wrap ((at' : Int) + ((b + 1 : Nat) : Int)) = ((at' + (b + 1) : Nat) : Int) := by rw [w64 (by omega) (by omega)]; rfl
      by_cases h3 : (d.length : Int) < ((at' + (b + 1) : Nat) : Int)
      · simp -implicitDefEqProofs only [bU, reduceIte, Nat.reduceEqDiff, reduceCtorEq, implies_true, forall_const, eq_self, Nat.reduceAdd, Nat.reduceLT, bne_self_eq_false, bT, eq_self, true_implies, false_implies, forall_const, if_true, if_false, Int.reduceToNat, Nat.reduceSub, Int.reduceLE, q3, q9, q12, q33, Int.reduceEq, a1, a2, b1, b2, h0, z1, z2, hbb, w0, w1, w2, toNat_nat, h1, h2, h3]
        exact hκ2 _ _ _ _ rfl rfl hS.e (.inl (by rw [e1, if_pos (.inr (.inr (.inr (.inl (by omega)))))]))
      have w3 : IntKind.i64.wrap ((at' : Int) + 1) = ((at' + 1 : Nat) : Int) := by rw [w64 (by omega) (by omega)]; rfl
      have z3 : (0 : Int) ≤ ((at' + 1 : Nat) : Int) := by omega
      have z4 : ((at' + 1 : Nat) : Int) ≤ ((at' + (b + 1) : Nat) : Int) := by omega
      have z5 : ((at' + (b + 1) : Nat) : Int) ≤ d.length := by omega
      have z6 : at' + (b + 1) - (at' + 1) = b := by omega
      obtain ⟨q, hq⟩ : ∃ q, (d.drop (at' + 1)).take b = q := ⟨_, rfl⟩
      have hql : q.length = b := by rw [← hq]; simp; omega
      rw [hq] at e1
      have hby : Byt (H.new (.arr true 0 1 (encB q))) (.sl H.n 0 q.length) q := by
        have := Mn.own (H := H.new (.arr true 0 1 (encB q))) (z := 1) (id := H.n) (xs := encB q) (by simp) new_at
        rw [enc_len] at this
        exact this.sl
      have hS2 := hS.ext (Ext.new H (.arr true 0 1 (encB q)))
      obtain ⟨l1, l2⟩ := hby.len
      simp -implicitDefEqProofs only [bU, reduceIte, Nat.reduceEqDiff, reduceCtorEq, implies_true, forall_const, eq_self, Nat.reduceAdd, Nat.reduceLT, bne_self_eq_false, bT, eq_self, true_implies, false_implies, forall_const, if_true, if_false, Int.reduceToNat, Nat.reduceSub, Int.reduceLE, q3, q9, q12, q33, Int.reduceEq, a1, a2, b1, b2, h0, z1, z2, hbb, w0, w1, w2, w3, toNat_nat, h1, h2, h3, z3, z4, z5, z6, hq, l1, l2]
      refine exec_loop (fun m e' M => ∃ (k : Nat) (L' : List Lv) (g' : Nat), k ≤ q.length ∧ m = q.length - k ∧ look e' 3 = look e 3 ∧ look e' 8 = look e 8 ∧ look e' 9 = look e 9 ∧ look e' 10 = look e 10 ∧ look e' 13 = .i .i64 ((b + 1 : Nat) : Int) ∧ look e' 29 = look e 29 ∧ look e' 92 = .sl H.n 0 q.length ∧ look e' 93 = .i .i64 q.length ∧ look e' 94 = .i .i64 k ∧ M = ⟨L', g', H.new (.arr true 0 1 (encB q))⟩ ∧ keepL [3, 8, 9, 10, 29] L' = keepL [3, 8, 9, 10, 29] L ∧ ∀ j, j < k → alnum (q.getD j 0) = true) ?_ (n := q.length)
        ⟨0, _, _, by omega, by omega, rfl, rfl, rfl, rfl, rfl, rfl, rfl, rfl, rfl, rfl, rfl, fun j hj => by omega⟩
      rintro m e' M ⟨k, L', g', hk, rfl, r3, r8, r9, r10, r13, r29, r92, r93, r94, rfl, hL, hall⟩
      by_cases hkl : (k : Int) < q.length
      · obtain ⟨t1, t2, t3, t4⟩ := hby.ia (j := k) (by omega) hkl (keepL [3, 8, 9, 10, 13, 29, 92, 93, 94] L') g'
        rw [Int.toNat_natCast] at t3 t4
        have w4 : IntKind.i64.wrap ((k : Int) + 1) = ((k + 1 : Nat) : Int) := by rw [w64 (by omega) (by omega)]; rfl
        simp -implicitDefEqProofs only [bU, reduceIte, Nat.reduceEqDiff, reduceCtorEq, implies_true, forall_const, eq_self, Nat.reduceAdd, Nat.reduceLT, bne_self_eq_false, bT, eq_self, true_implies, false_implies, forall_const, if_true, if_false, Int.reduceToNat, Nat.reduceSub, Int.reduceLE, r3, r8, r9, r10, r13, r29, r92, r93, r94, hkl, t1, t2, t3, t4, toNat_nat]
        rw [hB']
        refine alnP_run (c := q.getD k 0) rfl fun e2 hk2 k120 => ?_
        have s3 := hk2 3 (by simp)
        have s8 := hk2 8 (by simp)
        have s9 := hk2 9 (by simp)
        have s10 := hk2 10 (by simp)
        have s13 := hk2 13 (by simp)
        have s29 := hk2 29 (by simp)
        have s92 := hk2 92 (by simp)
        have s93 := hk2 93 (by simp)
        have s94 := hk2 94 (by simp)
        simp only [bU, reduceIte, Nat.reduceEqDiff, reduceCtorEq, implies_true, forall_const, eq_self, Nat.reduceAdd, Nat.reduceLT, bne_self_eq_false, r3, r8, r9, r10, r13, r29, r92, r93, r94] at s3 s8 s9 s10 s13 s29 s92 s93 s94
        cases ha : alnum (q.getD k 0) with
        | false =>
          rw [ha] at k120
          simp -implicitDefEqProofs only [bU, reduceIte, Nat.reduceEqDiff, reduceCtorEq, implies_true, forall_const, eq_self, Nat.reduceAdd, Nat.reduceLT, bne_self_eq_false, bT, eq_self, true_implies, false_implies, forall_const, if_true, if_false, Int.reduceToNat, Nat.reduceSub, Int.reduceLE, k120]
          exact hκ2 _ _ _ _ rfl rfl hS2.e (.inl (by rw [e1, if_pos (.inr (.inr (.inr (.inr (not_idx (by omega) ha)))))]))
        | true =>
          rw [ha] at k120
          simp -implicitDefEqProofs only [bU, reduceIte, Nat.reduceEqDiff, reduceCtorEq, implies_true, forall_const, eq_self, Nat.reduceAdd, Nat.reduceLT, bne_self_eq_false, bT, eq_self, true_implies, false_implies, forall_const, if_true, if_false, Int.reduceToNat, Nat.reduceSub, Int.reduceLE, k120, s3, s8, s9, s10, s13, s29, s92, s93, s94, w4]
          refine ⟨q.length - (k + 1), by omega, k + 1, _, _, by omega, rfl, rfl, rfl, (keep_keep rfl _).trans hL, fun j hj => ?_⟩
          by_cases hjk : j = k
          · rw [hjk]; exact ha
          · exact hall j (by omega)
      · have hkq : k = q.length := by omega
        simp -implicitDefEqProofs only [bU, reduceIte, Nat.reduceEqDiff, reduceCtorEq, implies_true, forall_const, eq_self, Nat.reduceAdd, Nat.reduceLT, bne_self_eq_false, bT, eq_self, true_implies, false_implies, forall_const, if_true, if_false, Int.reduceToNat, Nat.reduceSub, Int.reduceLE, r3, r8, r9, r10, r13, r29, r92, r93, r94, hkl]
        refine hκ1 _ _ _ _ o (b + 1) ⟨rfl, rfl, rfl, rfl⟩ q8 rfl ((keep_keep rfl _).trans hL) ?_ hS2
        rw [e1, if_neg]
        rintro (h | h | h | h | h)
        · have := congrArg List.length h; simp at this; omega
        · omega
        · omega
        · omega
        · rw [all_idx fun j hj => hall j (by omega)] at h; cases h
  · have c0 : ((84 : UInt8).toNat : Int) = 84 := rfl
    rw [c0] at q33
    have e1 : ilen 84 (d.drop at') = if tGo (d.drop at') = 0 then none else some (tGo (d.drop at')) := rfl
    simp only [swP, c_impl_parsed, sAt]
    simp -implicitDefEqProofs only [bU, reduceIte, Nat.reduceEqDiff, reduceCtorEq, implies_true, forall_const, eq_self, Nat.reduceAdd, Nat.reduceLT, bne_self_eq_false, bT, eq_self, true_implies, false_implies, forall_const, if_true, if_false, Int.reduceToNat, Nat.reduceSub, Int.reduceLE, q3, q9, q33, Int.reduceEq, a1, a2]
    refine exec_loop (fun m e' M => ∃ (k : Nat) (L' : List Lv) (g' : Nat), at' ≤ k ∧ k ≤ d.length + 300 ∧ m = d.length + 300 - k ∧ look e' 3 = look e 3 ∧ look e' 8 = look e 8 ∧ look e' 9 = look e 9 ∧ look e' 10 = look e 10 ∧ look e' 29 = look e 29 ∧ look e' 16 = .i .i64 k ∧ M = ⟨L', g', H⟩ ∧ keepL [3, 8, 9, 10, 29] L' = keepL [3, 8, 9, 10, 29] L ∧ tGo (d.drop at') = k - at' + tGo (d.drop k)) ?_ (n := d.length + 300 - at')
      ⟨at', _, _, by omega, by omega, by omega, rfl, rfl, rfl, rfl, rfl, rfl, rfl, rfl, by omega⟩
    rintro m e' M ⟨k, L', g', hk0, hk, rfl, r3, r8, r9, r10, r29, r16, rfl, hL, hT⟩
    rw [q3] at r3
    rw [q9] at r9
    by_cases hlt : (k : Int) < d.length
    · rw [tGo_at (show k < d.length by omega)] at hT
      have z1 : (0 : Int) ≤ k := by omega
      have hb := (d.getD k 0).toNat_lt
      have w0 := i64b (d.getD k 0)
      have w1 : IntKind.i64.wrap (1 + ((d.getD k 0).toNat : Int)) = ((1 + (d.getD k 0).toNat : Nat) : Int) := by rw [w64 (by omega) (by omega)]; omega
      have w2 : IntKind.i64.wrap ((k : Int) + ((1 + (d.getD k 0).toNat : Nat) : Int)) = ((k + 1 + (d.getD k 0).toNat : Nat) : Int) := by rw [w64 (by omega) (by omega)]; omega
      simp -implicitDefEqProofs only [bU, reduceIte, Nat.reduceEqDiff, reduceCtorEq, implies_true, forall_const, eq_self, Nat.reduceAdd, Nat.reduceLT, bne_self_eq_false, bT, eq_self, true_implies, false_implies, forall_const, if_true, if_false, Int.reduceToNat, Nat.reduceSub, Int.reduceLE, r3, r8, r9, r10, r16, r29, b1, b2, hlt, z1, w0, w1, w2, toNat_nat, q3, q9]
      exact ⟨d.length + 300 - (k + 1 + (d.getD k 0).toNat), by omega, k + 1 + (d.getD k 0).toNat, _, _, by omega, by omega, rfl, rfl, rfl, (keep_keep rfl _).trans hL, by omega⟩
    · rw [List.drop_of_length_le (l := d) (i := k) (by omega), show tGo [] = 0 by rw [tGo]] at hT
      have w3 : IntKind.i64.wrap ((k : Int) - (at' : Int)) = ((k - at' : Nat) : Int) := by rw [w64 (by omega) (by omega)]; omega
      by_cases h0 : k - at' = 0
      · have h0' : ((k - at' : Nat) : Int) = 0 := by omega
        simp -implicitDefEqProofs only [bU, reduceIte, Nat.reduceEqDiff, reduceCtorEq, implies_true, forall_const, eq_self, Nat.reduceAdd, Nat.reduceLT, bne_self_eq_false, bT, eq_self, true_implies, false_implies, forall_const, if_true, if_false, Int.reduceToNat, Nat.reduceSub, Int.reduceLE, r3, r8, r9, r10, r16, r29, a1, a2, b1, b2, hlt, w3, h0']
        exact hκ2 _ _ _ _ rfl rfl hS.e (.inl (by rw [e1, if_pos (by omega)]))
      · have h0' : ¬ ((k - at' : Nat) : Int) = 0 := by omega
        simp -implicitDefEqProofs only [bU, reduceIte, Nat.reduceEqDiff, reduceCtorEq, implies_true, forall_const, eq_self, Nat.reduceAdd, Nat.reduceLT, bne_self_eq_false, bT, eq_self, true_implies, false_implies, forall_const, if_true, if_false, Int.reduceToNat, Nat.reduceSub, Int.reduceLE, r3, r8, r9, r10, r16, r29, a1, a2, b1, b2, hlt, w3, h0']
        exact hκ1 _ _ _ _ o (k - at') ⟨q3.symm, q9.symm, rfl, rfl⟩ q8 rfl ((keep_keep rfl _).trans hL) (by rw [e1, if_neg (by omega)]; congr 1) hS
  · have c0 : ((109 : UInt8).toNat : Int) = 109 := rfl
    rw [c0] at q33
    have e1 : ilen 109 (d.drop at') = if mapOk (d.drop at') (-1) then some (d.drop at').length else none := rfl
    obtain ⟨v, H2, k1, k2, k3⟩ := hM (d.drop at') H (by omega)
    simp only [swP, c_impl_parsed, sAt]
    have hS2 := hS.ext k2
    have kR2 := hR _ _ _ _ _ hS2.d3 hS2.a9 hp
    cases hm : mapOk (d.drop at') (-1) with
    | false =>
      rw [hm] at k3 e1
      have k3' : v = .tp [.ns, .i .i64 7] := k3
      subst k3'
      simp -implicitDefEqProofs only [bU, reduceIte, Nat.reduceEqDiff, reduceCtorEq, implies_true, forall_const, eq_self, Nat.reduceAdd, Nat.reduceLT, bne_self_eq_false, bT, eq_self, true_implies, false_implies, forall_const, if_true, if_false, Int.reduceToNat, Nat.reduceSub, Int.reduceLE, q10, q33, Int.reduceEq, hfn, hnn, kR, k1]
      exact hκ2 _ _ _ _ rfl rfl hS2.e (.inl e1)
    | true =>
      rw [hm] at k3 e1
      obtain ⟨o2, rfl, -, -⟩ : ∃ o, v = .tp [o, .i .i64 0] ∧ Mn H2 1 o (ints (mapTs (d.drop at'))) ∧ ∀ i, i ∈ idA o → H.n ≤ i := k3
      simp -implicitDefEqProofs only [bU, reduceIte, Nat.reduceEqDiff, reduceCtorEq, implies_true, forall_const, eq_self, Nat.reduceAdd, Nat.reduceLT, bne_self_eq_false, bT, eq_self, true_implies, false_implies, forall_const, if_true, if_false, Int.reduceToNat, Nat.reduceSub, Int.reduceLE, q10, q33, Int.reduceEq, hfn, hnn, kR, kR2, k1]
      exact hκ1 _ _ _ _ o _ ⟨rfl, rfl, rfl, rfl⟩ q8 rfl rfl e1 hS2
  · have c0 : ((42 : UInt8).toNat : Int) = 42 := rfl
    rw [c0] at q33
    simp only [swP, c_impl_parsed, sAt]
    simp -implicitDefEqProofs only [bU, reduceIte, Nat.reduceEqDiff, reduceCtorEq, implies_true, forall_const, eq_self, Nat.reduceAdd, Nat.reduceLT, bne_self_eq_false, bT, eq_self, true_implies, false_implies, forall_const, if_true, if_false, Int.reduceToNat, Nat.reduceSub, Int.reduceLE, q10, q33, Int.reduceEq, hfn, hnn, kR]
    exact hκ1 _ _ _ _ o _ ⟨rfl, rfl, rfl, rfl⟩ q8 rfl rfl rfl hS
end
end Go.Vm
