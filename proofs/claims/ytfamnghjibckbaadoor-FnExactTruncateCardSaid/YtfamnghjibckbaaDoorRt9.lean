import Derived.Test.YtfamnghjibckbaaDoorRt3
import Derived.Test.YtfamnghjibckbaaDoorRt8
import Derived.Test.YtfamnghjibckbaaDoorProg
import Derived.KernelRfl
/- Data of records: the program's reader of forms, its check, where names stand. -/
namespace Go.Vm
set_option linter.unusedVariables false
set_option linter.unusedSimpArgs false
theorem implForm_ok {t : Int} {p : List UInt8} (h : implForm t = some p) : (∀ f, f ∈ p → f ∈ ([49, 50, 52, 103, 113, 110, 116, 99, 84, 109, 42] : List UInt8)) ∧ p.length ≤ 7 := by
  unfold implForm at h
  repeat' split at h
  all_goals first | (cases h; done) | (injection h with h; subst h; exact ⟨by decide, by decide⟩)
def NmPost (r : Option (List (Nat × Nat))) (H : AH) (v : AV) (H' : AH) : Prop := Ext H H' ∧ match r with
  | none => ∃ o, v = .tp [o, .b false] ∧ o.outs = true
  | some sp => ∃ o, v = .tp [o, .b true] ∧ Mx H' eSp o sp ∧ ∀ i, i ∈ idA o → H.n ≤ i
def T_parsed (C : Tab) (f : Nat) : Prop := ∀ (t : Int) (d : List UInt8) (H : AH), FormsOK H → d.length ≤ 1099511627776 → ∃ v H', C f [.i .i64 t, .s d] H = some (v, H') ∧ NmPost (nmsD t d) H v H'
def T_CheckI (C : Tab) (f : Nat) : Prop := ∀ (t : Int) (d : List UInt8) (H : AH), FormsOK H → d.length ≤ 1099511627776 → ∃ v H', C f [.i .i64 t, .s d] H = some (v, H') ∧ v = .i .i64 (chk t d) ∧ Ext H H'
def T_DataNames (C : Tab) (f : Nat) : Prop := ∀ (t : Int) (d : List UInt8) (H : AH), FormsOK H → d.length ≤ 1099511627776 → ∃ v H', C f [.i .i64 t, .s d] H = some (v, H') ∧ Ext H H' ∧ Mx H' eSp v (if chk t d = 0 then (nmsD t d).getD [] else []) ∧ ∀ i, i ∈ idA v → H.n ≤ i
section
variable {C : Tab}
set_option maxHeartbeats 1000000 in
theorem r_parsed {t : Int} {d : List UInt8} {H : AH} (hR : T_rest C n_impl_parsed_1) (hN : T_nmI C n_impl_nameAt) (hM : T_MapTypes C n_impl_MapTypes) (hF : FormsOK H) (hd : d.length ≤ 1099511627776) : Runs C c_impl_parsed [.i .i64 t, .s d] H (NmPost (nmsD t d) H) := by
  unfold Runs
  obtain ⟨B, hB, hs⟩ := cut_at c_impl_parsed [1, 1, 1, 1, 1, 1, 0, 1, 2, 2, 1, 1, 2, 1, 1, 0, 1]
  rw [hs]
  simp only [c_impl_parsed, sPut]
  have hB' : B = swP := hB
  obtain ⟨rw', mid, es, h1, h2, h3, h4, h5, h6⟩ := hF.ext (Ext.new H (.arr true 0 1 [.s d]))
  obtain ⟨f1, f2⟩ := cell_ld h1 rfl
  have f3 : mpOk (H.new (.arr true 0 1 [.s d])) (.mp mid) := by simp only [mpOk, h2]
  have f4 : mpEs (H.new (.arr true 0 1 [.s d])) (.mp mid) = es := by simp only [mpEs, h2]
  have f5 : keyOk [.i .i64] es (.i .i64 t) := ⟨_, rfl, by simp [AV.isCk], h5⟩
  have f6 := (h6 t).trans (forms_find t)
  simp only [gForms] at f1 f2
  cases hi : implForm t with
  | none =>
    rw [hi] at f6
    have f6' : mpFind es (.i .i64 t) = none := f6
    rw [nmsD_none hi]
    simp -implicitDefEqProofs only [bU, reduceIte, Nat.reduceEqDiff, reduceCtorEq, implies_true, forall_const, eq_self, Nat.reduceAdd, Nat.reduceLT, bne_self_eq_false, bT, eq_self, true_implies, false_implies, forall_const, if_true, if_false, Int.reduceToNat, Nat.reduceSub, Int.reduceLE, f1, f2, f3, f4, f5, f6', lkV, endK, rsC, rsV, resV]
    exact ⟨.new _ _, .ns, rfl, .nil, by simp [idA]⟩
  | some p =>
    rw [hi] at f6
    have f6' : mpFind es (.i .i64 t) = some (.s p) := f6
    rw [nmsD_some hi]
    obtain ⟨hlet, hpl⟩ := implForm_ok hi
    have z9 : ((H.new (.arr true 0 1 [.s d])).new (.arr true 0 1 [.i .i64 0])).at' (H.n + 1) = .arr true 0 1 [.i .i64 0] := new_at
    obtain ⟨s1, s2⟩ := cell_st z9 rfl (w := .i .i64 0) rfl (fun cs h => by cases h)
    have hset : (((H.new (.arr true 0 1 [.s d])).new (.arr true 0 1 [.i .i64 0])).set (H.n + 1) (.arr true 0 1 [.i .i64 0])) = ((H.new (.arr true 0 1 [.s d])).new (.arr true 0 1 [.i .i64 0])) := new_set
    rw [hset] at s2
    have y1 : allP [AV.pv H.n 0, .pv (H.n + 1) 0] = true := rfl
    have hnn : (H.new (.arr true 0 1 [.s d])).n = H.n + 1 := rfl
    simp -implicitDefEqProofs only [bU, reduceIte, Nat.reduceEqDiff, reduceCtorEq, implies_true, forall_const, eq_self, Nat.reduceAdd, Nat.reduceLT, bne_self_eq_false, bT, eq_self, true_implies, false_implies, forall_const, if_true, if_false, Int.reduceToNat, Nat.reduceSub, Int.reduceLE, f1, f2, f3, f4, f5, f6', lkV, hnn, s1, s2, y1]
    have hS0 : PS H ((H.new (.arr true 0 1 [.s d])).new (.arr true 0 1 [.i .i64 0])) d 0 .ns [] := ⟨(new_old (by simp)).trans new_at, new_at, .nil, (Ext.new _ _).trans (Ext.new _ _), by simp [idA], by simp⟩
    refine exec_loop (fun n e M => ∃ (i at' : Nat) (sp : List (Nat × Nat)) (o : AV) (H' : AH) (L : List Lv) (g g' : Nat), i ≤ p.length ∧ n = p.length - i ∧ look e 3 = .pv H.n 0 ∧ look e 8 = o ∧ look e 9 = .pv (H.n + 1) 0 ∧ look e 10 = .fn n_impl_parsed_1 [.pv H.n 0, .pv (H.n + 1) 0] ∧ look e 29 = .li 29 g' ∧ M = ⟨L, g, H'⟩ ∧ keepL [3, 8, 9, 10, 29] L = [⟨29, g', 1, [.s p, .i .i64 i]⟩] ∧ PS H H' d at' o sp ∧ sp.length ≤ i ∧ at' ≤ d.length ∧ iprs p d 0 = (iprs (p.drop i) (d.drop at') at').map fun q => sp ++ q) ?_ (n := p.length)
      ⟨0, 0, [], .ns, _, _, _, _, by omega, by omega, rfl, rfl, rfl, rfl, rfl, rfl, rfl, hS0, by simp, by omega, by simp⟩
    rintro n e M ⟨i, at', sp, o, H', L, g, g', hil, rfl, q3, q8, q9, q10, q29, rfl, hL, hS, hsp, hat, hg⟩
    have n1 : ∀ g H, itC ⟨[⟨29, g', 1, [.s p, .i .i64 i]⟩], g, H⟩ (.li 29 g') := fun g H => by simp [itC, Mem.hasL, lookL]
    have n2 : ∀ g H, itS ⟨[⟨29, g', 1, [.s p, .i .i64 i]⟩], g, H⟩ (.li 29 g') = p := fun g H => by simp [itS, Mem.getL, lookL]
    have n3 : ∀ g H, itP ⟨[⟨29, g', 1, [.s p, .i .i64 i]⟩], g, H⟩ (.li 29 g') = i := fun g H => by simp [itP, Mem.getL, lookL]
    by_cases hlt : i < p.length
    · obtain ⟨f, hff⟩ : ∃ f, p.getD i 0 = f := ⟨_, rfl⟩
      have hmem : f ∈ p := by
        rw [← hff, List.getD, List.getElem?_eq_getElem hlt]
        exact List.getElem_mem hlt
      have hfl := hlet f hmem
      have hf128 : f.toNat < 128 := by
        simp only [List.mem_cons, List.not_mem_nil, or_false] at hfl
        rcases hfl with h | h | h | h | h | h | h | h | h | h | h <;> rw [h] <;> decide
      have hdec : Utf8.decode ⟨p.toArray⟩ i = (f.toNat, 1) := by
        rw [← hff]; exact utf1 hlt (by rw [hff]; exact hf128)
      have hdr : p.drop i = f :: p.drop (i + 1) := by rw [List.drop_eq_getElem_cons hlt, ← hff]; simp [List.getD, hlt]
      rw [hdr, iprs] at hg
      simp -implicitDefEqProofs only [bU, reduceIte, Nat.reduceEqDiff, reduceCtorEq, implies_true, forall_const, eq_self, Nat.reduceAdd, Nat.reduceLT, bne_self_eq_false, bT, eq_self, true_implies, false_implies, forall_const, if_true, if_false, Int.reduceToNat, Nat.reduceSub, Int.reduceLE, q3, q8, q9, q10, q29, hL, n1, n2, n3, hlt, hdec]
      rw [hB']
      have hset2 : setL [⟨29, g', 1, [.s p, .i .i64 i]⟩] 29 [.s p, .i .i64 ((i + 1 : Nat) : Int)] = [⟨29, g', 1, [.s p, .i .i64 ((i + 1 : Nat) : Int)]⟩] := by simp [setL]
      simp only [hset2]
      refine swP_run (f := f) (d := d) (at' := at') (sp := sp) (H0 := H) hR hN hM hfl rfl rfl rfl rfl rfl rfl rfl hd hat (by omega) hS (fun e' L' g2 H2 o' n hk k8 k13 hkL hn hS2 => ?_) (fun e' L' g2 H2 k4 k5 he hn => ?_)
      · obtain ⟨k3, k9, k10, k29⟩ := hk
        simp only [bU, reduceIte, Nat.reduceEqDiff, reduceCtorEq, implies_true, forall_const, eq_self, Nat.reduceAdd, Nat.reduceLT, bne_self_eq_false] at k3 k9 k10 k29
        rw [hn] at hg
        simp only at hg
        obtain ⟨a1, a2⟩ := cell_ld hS2.a9 rfl
        obtain ⟨b1, b2⟩ := cell_ld hS2.d3 rfl
        have hdl : (d.drop at').length = d.length - at' := List.length_drop
        rw [hdl] at hg
        have hn' : n ≤ 329853488332800 := by
          have hT : ∀ (k : Nat) (s : List UInt8), s.length ≤ k → tGo s ≤ s.length * 256 := fun k => by
            induction k with
            | zero =>
              intro s hs
              have e0 : s = [] := List.eq_nil_of_length_eq_zero (by omega)
              rw [e0, tGo]
              exact Nat.zero_le _
            | succ k ih =>
              intro s hs
              cases s with
              | nil => rw [tGo]; exact Nat.zero_le _
              | cons c r =>
                rw [tGo]
                have := c.toNat_lt
                have := ih (r.drop c.toNat) (by simp at hs ⊢; omega)
                simp only [List.length_cons, List.length_drop] at this ⊢
                omega
          have h1 := nmAt_le (d.drop at')
          have h2 := hT _ (d.drop at') (Nat.le_refl _)
          have h3 := ((d.drop at').getD 0 0).toNat_lt
          unfold ilen at hn
          repeat' split at hn
          all_goals first | (cases hn; done) | (injection hn with hn; omega)
        have w1 : IntKind.i64.wrap ((at' : Int) + (n : Int)) = ((at' + n : Nat) : Int) := by rw [w64 (by omega) (by omega)]; rfl
        by_cases hbig : (d.length : Int) < ((at' + n : Nat) : Int)
        · rw [if_pos (by omega), Option.map_none] at hg
          rw [hg]
          simp -implicitDefEqProofs only [bU, reduceIte, Nat.reduceEqDiff, reduceCtorEq, implies_true, forall_const, eq_self, Nat.reduceAdd, Nat.reduceLT, bne_self_eq_false, bT, eq_self, true_implies, false_implies, forall_const, if_true, if_false, Int.reduceToNat, Nat.reduceSub, Int.reduceLE, k3, k8, k9, k10, k13, k29, a1, a2, b1, b2, w1, hbig, endK, rsC, rsV, resV]
          exact ⟨hS2.e, .ns, rfl, rfl⟩
        · rw [if_neg (by omega), Option.map_map, List.drop_drop] at hg
          obtain ⟨t1, t2⟩ := cell_st hS2.a9 rfl (w := .i .i64 ((at' + n : Nat) : Int)) rfl (fun cs h => by cases h)
          simp -implicitDefEqProofs only [bU, reduceIte, Nat.reduceEqDiff, reduceCtorEq, implies_true, forall_const, eq_self, Nat.reduceAdd, Nat.reduceLT, bne_self_eq_false, bT, eq_self, true_implies, false_implies, forall_const, if_true, if_false, Int.reduceToNat, Nat.reduceSub, Int.reduceLE, k3, k8, k9, k10, k13, k29, a1, a2, b1, b2, w1, hbig, t1, t2]
          refine ⟨p.length - (i + 1), by omega, i + 1, at' + n, if f = 110 then sp ++ [(at', at' + n)] else sp, o', _, _, _, g', by omega, rfl, rfl, rfl, rfl, hkL, ?_, ?_, by omega, ?_⟩
          · refine ⟨(set_ne (by omega)).trans hS2.d3, set_at, ?_, hS2.e.set (by omega), hS2.i, hS2.n⟩
            exact Mn.fr hS2.m (Nat.le_refl _) fun j hj => set_ne (by have := hS2.i j hj; omega)
          · by_cases h110 : f = 110
            · rw [if_pos h110, List.length_append, List.length_singleton]; omega
            · rw [if_neg h110]; omega
          · rw [hg]
            congr 1
            funext q
            by_cases h110 : f = 110
            · simp [h110]
            · simp [h110]
      · have hnone : iprs p d 0 = none := by
          rw [hg]
          rcases hn with hn | ⟨n, hn, hlt2⟩
          · rw [hn]; rfl
          · rw [hn]
            simp only
            rw [if_pos (by rw [List.length_drop]; exact hlt2)]
            rfl
        rw [hnone]
        simp -implicitDefEqProofs only [bU, reduceIte, Nat.reduceEqDiff, reduceCtorEq, implies_true, forall_const, eq_self, Nat.reduceAdd, Nat.reduceLT, bne_self_eq_false, bT, eq_self, true_implies, false_implies, forall_const, if_true, if_false, Int.reduceToNat, Nat.reduceSub, Int.reduceLE, k4, k5, endK, rsC, rsV, resV]
        exact ⟨he, .ns, rfl, rfl⟩
    · have hip : i = p.length := by omega
      rw [hip, List.drop_length, iprs] at hg
      obtain ⟨a1, a2⟩ := cell_ld hS.a9 rfl
      obtain ⟨b1, b2⟩ := cell_ld hS.d3 rfl
      have ho := (Mn.sl hS.m).out
      simp -implicitDefEqProofs only [bU, reduceIte, Nat.reduceEqDiff, reduceCtorEq, implies_true, forall_const, eq_self, Nat.reduceAdd, Nat.reduceLT, bne_self_eq_false, bT, eq_self, true_implies, false_implies, forall_const, if_true, if_false, Int.reduceToNat, Nat.reduceSub, Int.reduceLE, q3, q8, q9, q10, q29, hL, n1, n2, n3, hlt, a1, a2, b1, b2, ho, endK, rsC, rsV, resV]
      by_cases hend : at' = d.length
      · rw [if_pos (List.drop_of_length_le (by omega)), Option.map_some, List.append_nil] at hg
        rw [hg]
        exact ⟨hS.e, o, by rw [decide_eq_true (by omega)], hS.m, fun j hj => by have := hS.i j hj; omega⟩
      · rw [if_neg (fun hh => by have := congrArg List.length hh; simp at this; omega), Option.map_none] at hg
        rw [hg]
        exact ⟨hS.e, o, by rw [decide_eq_false (by omega)], ho⟩
theorem r_CheckI {t : Int} {d : List UInt8} {H : AH} (hP : T_parsed C n_impl_parsed) (hF : FormsOK H) (hd : d.length ≤ 1099511627776) : Runs C c_impl_CheckData [.i .i64 t, .s d] H fun v H' => v = .i .i64 (chk t d) ∧ Ext H H' := by
  unfold Runs c_impl_CheckData
  rw [chk_nms]
  by_cases h1 : t < 0
  · rw [if_pos (.inl h1)]
    simp -implicitDefEqProofs only [bU, reduceIte, Nat.reduceEqDiff, reduceCtorEq, implies_true, forall_const, eq_self, Nat.reduceAdd, Nat.reduceLT, bne_self_eq_false, bT, eq_self, true_implies, false_implies, forall_const, if_true, if_false, Int.reduceToNat, Nat.reduceSub, Int.reduceLE, h1, endK, rsC, rsV, resV]
    exact .refl _
  by_cases h2 : 65535 < t
  · rw [if_pos (.inr h2)]
    simp -implicitDefEqProofs only [bU, reduceIte, Nat.reduceEqDiff, reduceCtorEq, implies_true, forall_const, eq_self, Nat.reduceAdd, Nat.reduceLT, bne_self_eq_false, bT, eq_self, true_implies, false_implies, forall_const, if_true, if_false, Int.reduceToNat, Nat.reduceSub, Int.reduceLE, h1, h2, endK, rsC, rsV, resV]
    exact .refl _
  rw [if_neg (by omega)]
  by_cases h3 : (65535 : Int) < d.length
  · rw [if_pos (.inl (by omega))]
    simp -implicitDefEqProofs only [bU, reduceIte, Nat.reduceEqDiff, reduceCtorEq, implies_true, forall_const, eq_self, Nat.reduceAdd, Nat.reduceLT, bne_self_eq_false, bT, eq_self, true_implies, false_implies, forall_const, if_true, if_false, Int.reduceToNat, Nat.reduceSub, Int.reduceLE, h1, h2, h3, endK, rsC, rsV, resV]
    exact .refl _
  obtain ⟨v, H', k2, k3, k4⟩ := hP t d H hF hd
  cases hp : nmsD t d with
  | none =>
    rw [if_pos (.inr rfl)]
    rw [hp] at k4
    obtain ⟨o, rfl, ho⟩ := k4
    simp -implicitDefEqProofs only [bU, reduceIte, Nat.reduceEqDiff, reduceCtorEq, implies_true, forall_const, eq_self, Nat.reduceAdd, Nat.reduceLT, bne_self_eq_false, bT, eq_self, true_implies, false_implies, forall_const, if_true, if_false, Int.reduceToNat, Nat.reduceSub, Int.reduceLE, h1, h2, h3, k2, ho, endK, rsC, rsV, resV]
    exact k3
  | some ps =>
    rw [if_neg (by simp; omega)]
    rw [hp] at k4
    obtain ⟨o, rfl, hm, -⟩ := k4
    have ho := (Mn.sl hm).out
    simp -implicitDefEqProofs only [bU, reduceIte, Nat.reduceEqDiff, reduceCtorEq, implies_true, forall_const, eq_self, Nat.reduceAdd, Nat.reduceLT, bne_self_eq_false, bT, eq_self, true_implies, false_implies, forall_const, if_true, if_false, Int.reduceToNat, Nat.reduceSub, Int.reduceLE, h1, h2, h3, k2, ho, endK, rsC, rsV, resV]
    exact k3
theorem r_DataNames {t : Int} {d : List UInt8} {H : AH} (hC : T_CheckI C n_impl_CheckData) (hP : T_parsed C n_impl_parsed) (hF : FormsOK H) (hd : d.length ≤ 1099511627776) : Runs C c_impl_DataNames [.i .i64 t, .s d] H fun v H' => Ext H H' ∧ Mx H' eSp v (if chk t d = 0 then (nmsD t d).getD [] else []) ∧ ∀ i, i ∈ idA v → H.n ≤ i := by
  unfold Runs c_impl_DataNames
  obtain ⟨v, H1, k1, rfl, e1⟩ := hC t d H hF hd
  by_cases h0 : chk t d = 0
  · obtain ⟨v2, H2, k2, e2, k3⟩ := hP t d H1 (hF.ext e1) hd
    have hs : ∃ sp, nmsD t d = some sp := by
      rw [chk_nms] at h0
      split at h0
      · cases h0
      · split at h0
        · cases h0
        · rename_i h
          cases hn : nmsD t d with
          | none => rw [hn] at h; simp at h
          | some sp => exact ⟨sp, rfl⟩
    obtain ⟨sp, hsp⟩ := hs
    rw [hsp] at k3
    obtain ⟨o, rfl, hm, hi⟩ := k3
    have ho := (Mn.sl hm).out
    simp -implicitDefEqProofs only [bU, reduceIte, Nat.reduceEqDiff, reduceCtorEq, implies_true, forall_const, eq_self, Nat.reduceAdd, Nat.reduceLT, bne_self_eq_false, bT, eq_self, true_implies, false_implies, forall_const, if_true, if_false, Int.reduceToNat, Nat.reduceSub, Int.reduceLE, k1, h0, k2, ho, endK, rsC, rsV, resV]
    rw [hsp]
    exact ⟨e1.trans e2, hm, fun i hi' => by have := hi i hi'; have := e1.n; omega⟩
  · simp -implicitDefEqProofs only [bU, reduceIte, Nat.reduceEqDiff, reduceCtorEq, implies_true, forall_const, eq_self, Nat.reduceAdd, Nat.reduceLT, bne_self_eq_false, bT, eq_self, true_implies, false_implies, forall_const, if_true, if_false, Int.reduceToNat, Nat.reduceSub, Int.reduceLE, k1, h0, endK, rsC, rsV, resV]
    exact ⟨e1, .nil, by simp [idA]⟩
end
end Go.Vm

/- Functions' code as literals of the abstract machine, printed by wip/tools/lits.py; the kernel checks each against the translation. -/
namespace Go.Vm
set_option linter.unusedVariables false
set_option linter.unusedSimpArgs false
/-- loop.example/s01858/laws.FnExactTruncate -/
def c_laws_FnExactTruncate : Fn := ⟨2, [(.t 4)],
    .q (.o [.lbx 2 (.t 0),
      .mv 4 (.c (.b false))])
    (.q (.o [.mv 5 (.c (.i .i64 1048576))])
    (.q (.o [.ld 16 (.t 2) (some 15),
      .mv 17 (.t 5),
      .cl (some 18) 12 [(.t 16), (.t 17)],
      .mv 5 (.t 18)])
    (.q (.q (.o [.mv 19 (.t 5),
      .bn 20 .lss (.t 19) (.c (.i .i64 0))])
    (.i (.t 20) (.q (.o [.mv 4 (.c (.b true))])
    (.r))
    (.k)))
    (.q (.o [.ld 22 (.t 2) (some 15),
      .cl (some 23) 14 [(.t 22)],
      .mv 24 (.t 1),
      .cl (some 25) 13 [(.t 23), (.t 24)],
      .mv 21 (.t 25),
      .ex 26 (.t 21) 0,
      .ex 27 (.t 21) 1,
      .lal 6 (.ag [(.i .i64 0), (.b false), (.i .i64 0), (.b false), (.b false), (.b false), (.b false), (.b false), (.b false), (.b false), (.i .i64 0), .ns, .ns, .ns, .ns]),
      .st (.t 6) (.t 26) 15,
      .mv 7 (.t 27)])
    (.q (.o [.ld 28 (.t 2) (some 15),
      .cl (some 29) 14 [(.t 28)],
      .lal 8 (.ag [(.i .i64 0), (.b false), (.i .i64 0), (.b false), (.b false), (.b false), (.b false), (.b false), (.b false), (.b false), (.i .i64 0), .ns, .ns, .ns, .ns]),
      .st (.t 8) (.t 29) 15])
    (.q (.o [.ld 31 (.t 8) (some 15),
      .mv 32 (.t 1),
      .cl (some 33) 15 [(.t 31), (.t 32)],
      .mv 30 (.t 33),
      .ex 34 (.t 30) 0,
      .ex 35 (.t 30) 1,
      .lal 9 (.ag [(.i .i64 0), (.b false), (.i .i64 0), (.b false), (.b false), (.b false), (.b false), (.b false), (.b false), (.b false), (.i .i64 0), .ns, .ns, .ns, .ns]),
      .st (.t 9) (.t 34) 15,
      .mv 10 (.t 35)])
    (.q (.q (.o [.ld 36 (.t 9) (some 15),
      .ld 37 (.t 6) (some 15),
      .cl (some 38) 16 [(.t 36), (.t 37)],
      .un 39 .not (.t 38),
      .mv 40 (.t 39),
      .gd 40 false (.mv 41 (.t 10)),
      .gd 40 false (.mv 42 (.t 7)),
      .gd 40 false (.bn 43 .neq (.t 41) (.t 42)),
      .pk 44 (.t 40) (.c (.b true)) (.t 43)])
    (.i (.t 44) (.q (.o [.mv 4 (.c (.b false))])
    (.r))
    (.k)))
    (.q (.q (.p [⟨.ld 45 (.t 8) (some 15), [], true⟩,
      ⟨.ld 46 (.t 2) (some 15), [], false⟩,
      ⟨.cl (some 47) 14 [(.t 46)], [0], false⟩,
      ⟨.cl (some 48) 16 [(.t 45), (.t 47)], [], false⟩,
      ⟨.un 49 .not (.t 48), [], false⟩])
    (.i (.t 49) (.q (.o [.mv 4 (.c (.b false))])
    (.r))
    (.k)))
    (.q (.o [.mv 11 (.c (.i .i64 1))])
    (.q (.o [.ld 50 (.t 8) (some 15),
      .mv 51 (.t 11),
      .cl (some 52) 17 [(.t 50), (.t 51)],
      .mv 11 (.t 52)])
    (.q (.q (.o [.mv 53 (.t 11),
      .bn 54 .lss (.t 53) (.c (.i .i64 0)),
      .mv 55 (.t 54),
      .gd 55 false (.ld 56 (.t 9) (some 15)),
      .gd 55 false (.ld 57 (.t 6) (some 15)),
      .gd 55 false (.cl (some 58) 16 [(.t 56), (.t 57)]),
      .gd 55 false (.un 59 .not (.t 58)),
      .pk 60 (.t 55) (.c (.b true)) (.t 59),
      .mv 61 (.t 60),
      .gd 61 false (.mv 62 (.t 10)),
      .gd 61 false (.mv 63 (.t 7)),
      .gd 61 false (.bn 64 .neq (.t 62) (.t 63)),
      .pk 65 (.t 61) (.c (.b true)) (.t 64)])
    (.i (.t 65) (.q (.o [.mv 4 (.c (.b false))])
    (.r))
    (.k)))
    (.q (.o [.mv 12 (.c (.i .i64 1))])
    (.q (.o [.ld 66 (.t 9) (some 15),
      .mv 67 (.t 12),
      .cl (some 68) 17 [(.t 66), (.t 67)],
      .mv 12 (.t 68)])
    (.q (.o [.mv 13 (.c (.i .i64 1))])
    (.q (.o [.ld 69 (.t 9) (some 15),
      .mv 70 (.t 13),
      .cl (some 71) 18 [(.t 69), (.t 70)],
      .mv 13 (.t 71)])
    (.q (.q (.o [.mv 72 (.t 13),
      .bn 73 .lss (.t 72) (.c (.i .i64 0))])
    (.i (.t 73) (.q (.o [.mv 4 (.c (.b false))])
    (.r))
    (.k)))
    (.q (.q (.o [.mv 74 (.t 13),
      .mv 75 (.t 12),
      .bn 76 .neq (.t 74) (.t 75)])
    (.i (.t 76) (.q (.o [.mv 4 (.c (.b false))])
    (.r))
    (.k)))
    (.q (.o [.ld 78 (.t 2) (some 15),
      .cl (some 79) 14 [(.t 78)],
      .mv 80 (.t 1),
      .cl (some 81) 15 [(.t 79), (.t 80)],
      .mv 77 (.t 81),
      .ex 82 (.t 77) 0,
      .ex 83 (.t 77) 1,
      .lal 14 (.ag [(.i .i64 0), (.b false), (.i .i64 0), (.b false), (.b false), (.b false), (.b false), (.b false), (.b false), (.b false), (.i .i64 0), .ns, .ns, .ns, .ns]),
      .st (.t 14) (.t 82) 15,
      .mv 15 (.t 83)])
    (.q (.q (.o [.ld 84 (.t 14) (some 15),
      .ld 85 (.t 6) (some 15),
      .cl (some 86) 16 [(.t 84), (.t 85)],
      .un 87 .not (.t 86),
      .mv 88 (.t 87),
      .gd 88 false (.mv 89 (.t 15)),
      .gd 88 false (.mv 90 (.t 7)),
      .gd 88 false (.bn 91 .neq (.t 89) (.t 90)),
      .pk 92 (.t 88) (.c (.b true)) (.t 91)])
    (.i (.t 92) (.q (.o [.mv 4 (.c (.b false))])
    (.r))
    (.k)))
    (.q (.o [.mv 13 (.c (.i .i64 1))])
    (.q (.o [.ld 93 (.t 9) (some 15),
      .mv 94 (.t 13),
      .cl (some 95) 18 [(.t 93), (.t 94)],
      .mv 13 (.t 95)])
    (.q (.q (.o [.mv 96 (.t 13),
      .bn 97 .lss (.t 96) (.c (.i .i64 0))])
    (.i (.t 97) (.q (.o [.mv 4 (.c (.b false))])
    (.r))
    (.k)))
    (.q (.q (.o [.mv 98 (.t 13),
      .mv 99 (.t 12),
      .bn 100 .neq (.t 98) (.t 99)])
    (.i (.t 100) (.q (.o [.mv 4 (.c (.b false))])
    (.r))
    (.k)))
    (.q (.o [.mv 4 (.c (.b true))])
    (.r)))))))))))))))))))))))))⟩
abbrev n_laws_FnExactTruncate : Nat := 4
theorem k_laws_FnExactTruncate : chkF Go.Proofs.Tryd.prog c_laws_FnExactTruncate 4 = true := by kernel_rfl
/-- loop.example/s01858/spec.Truncate -/
def c_spec_Truncate : Fn := ⟨2, [(.c 4 (some 15)), (.t 5)],
    .q (.o [.lbx 2 (.t 0),
      .lal 4 (.ag [(.i .i64 0), (.b false), (.i .i64 0), (.b false), (.b false), (.b false), (.b false), (.b false), (.b false), (.b false), (.i .i64 0), .ns, .ns, .ns, .ns]),
      .mv 5 (.c (.i .i64 0))])
    (.q (.q (.o [.ld 6 (.t 2) (some 15),
      .cl (some 7) 39 [(.t 6)],
      .un 8 .not (.t 7)])
    (.i (.t 8) (.q (.o [.bd 9 [(.i .i64 0), (.b false), (.i .i64 0), (.b false), (.b false), (.b false), (.b false), (.b false), (.b false), (.b false), (.i .i64 0), .ns, .ns, .ns, .ns] [],
      .st (.t 4) (.t 9) 15,
      .mv 5 (.c (.i .i64 32))])
    (.r))
    (.k)))
    (.q (.o [.ld 10 (.t 2) (some 15),
      .cl (some 11) 41 [(.t 10)],
      .mv 12 (.t 1),
      .cl (some 13) 40 [(.t 11), (.t 12)],
      .st (.t 4) (.t 13) 15,
      .mv 5 (.c (.i .i64 0))])
    (.r)))⟩
abbrev n_spec_Truncate : Nat := 13
theorem k_spec_Truncate : chkF Go.Proofs.Tryd.prog c_spec_Truncate 13 = true := by kernel_rfl
/-- loop.example/s01858/impl.Truncate -/
def c_impl_Truncate : Fn := ⟨2, [(.c 4 (some 15)), (.t 5)],
    .q (.o [.lbx 2 (.t 0),
      .lal 4 (.ag [(.i .i64 0), (.b false), (.i .i64 0), (.b false), (.b false), (.b false), (.b false), (.b false), (.b false), (.b false), (.i .i64 0), .ns, .ns, .ns, .ns]),
      .mv 5 (.c (.i .i64 0))])
    (.q (.q (.o [.ld 7 (.t 2) (some 15),
      .cl (some 8) 30 [(.t 7)],
      .un 9 .not (.t 8)])
    (.i (.t 9) (.q (.o [.bd 10 [(.i .i64 0), (.b false), (.i .i64 0), (.b false), (.b false), (.b false), (.b false), (.b false), (.b false), (.b false), (.i .i64 0), .ns, .ns, .ns, .ns] [],
      .st (.t 4) (.t 10) 15,
      .mv 5 (.c (.i .i64 32))])
    (.r))
    (.k)))
    (.q (.o [.ld 11 (.t 2) (some 15),
      .cl (some 12) 45 [(.t 11)],
      .st (.t 2) (.t 12) 15])
    (.q (.b 0 (.l [1, 2, 4] (.q (.q (.o [.ld 13 (.t 2) (some 15),
      .cl (some 14) 31 [(.t 13)],
      .ln 15 (.t 14),
      .mv 16 (.t 1),
      .bn 17 .gtr (.t 15) (.t 16)])
    (.i (.t 17) (.k)
    (.x 0)))
    (.b 1 (.q (.o [.mv 6 (.c (.b false))])
    (.q (.q (.o [.fa 19 (.t 2) 14,
      .ld 20 (.t 19) none,
      .cl (some 21) 46 [(.t 20), (.c (.b true))],
      .mv 18 (.t 21),
      .ex 22 (.t 18) 0,
      .ex 23 (.t 18) 1,
      .fa 24 (.t 2) 14,
      .st (.t 24) (.t 22) 1,
      .mv 6 (.t 23)])
    (.q (.o [.mv 25 (.t 6)])
    (.i (.t 25) (.x 1)
    (.k))))
    (.q (.q (.o [.fa 27 (.t 2) 13,
      .ld 28 (.t 27) none,
      .cl (some 29) 46 [(.t 28), (.c (.b false))],
      .mv 26 (.t 29),
      .ex 30 (.t 26) 0,
      .ex 31 (.t 26) 1,
      .fa 32 (.t 2) 13,
      .st (.t 32) (.t 30) 1,
      .mv 6 (.t 31)])
    (.q (.o [.mv 33 (.t 6),
      .un 34 .not (.t 33)])
    (.i (.t 34) (.o [.fa 36 (.t 2) 12,
      .ld 37 (.t 36) none,
      .cl (some 38) 46 [(.t 37), (.c (.b false))],
      .mv 35 (.t 38),
      .ex 39 (.t 35) 0,
      .ex 40 (.t 35) 1,
      .fa 41 (.t 2) 12,
      .st (.t 41) (.t 39) 1,
      .mv 6 (.t 40)])
    (.k))))
    (.q (.q (.o [.mv 42 (.t 6),
      .un 43 .not (.t 42)])
    (.i (.t 43) (.x 0)
    (.k)))
    (.o [.fa 44 (.t 2) 0,
      .fa 45 (.t 44) 4,
      .st (.t 45) (.c (.b true)) 1])))))))))
    (.q (.o [.ld 46 (.t 2) (some 15),
      .st (.t 4) (.t 46) 15,
      .mv 5 (.c (.i .i64 0))])
    (.r)))))⟩
abbrev n_impl_Truncate : Nat := 15
theorem k_impl_Truncate : chkF Go.Proofs.Tryd.prog c_impl_Truncate 15 = true := by kernel_rfl
/-- loop.example/s01858/laws.heldMessage -/
def c_laws_heldMessage : Fn := ⟨2, [(.t 4)],
    .q (.o [.lbx 2 (.t 0),
      .mv 4 (.c (.i .i64 0))])
    (.q (.o [.fa 5 (.t 2) 11,
      .ld 6 (.t 5) none,
      .mv 7 (.t 1),
      .cl (some 8) 52 [(.t 6), (.t 7)],
      .mv 1 (.t 8)])
    (.q (.q (.o [.mv 9 (.t 1),
      .bn 10 .lss (.t 9) (.c (.i .i64 0))])
    (.i (.t 10) (.q (.o [.mv 4 (.c (.i .i64 (-1)))])
    (.r))
    (.k)))
    (.q (.o [.fa 11 (.t 2) 12,
      .ld 12 (.t 11) none,
      .mv 13 (.t 1),
      .cl (some 14) 53 [(.t 12), (.t 13)],
      .mv 1 (.t 14)])
    (.q (.q (.o [.mv 15 (.t 1),
      .bn 16 .lss (.t 15) (.c (.i .i64 0))])
    (.i (.t 16) (.q (.o [.mv 4 (.c (.i .i64 (-1)))])
    (.r))
    (.k)))
    (.q (.o [.fa 17 (.t 2) 13,
      .ld 18 (.t 17) none,
      .mv 19 (.t 1),
      .cl (some 20) 53 [(.t 18), (.t 19)],
      .mv 1 (.t 20)])
    (.q (.q (.o [.mv 21 (.t 1),
      .bn 22 .lss (.t 21) (.c (.i .i64 0))])
    (.i (.t 22) (.q (.o [.mv 4 (.c (.i .i64 (-1)))])
    (.r))
    (.k)))
    (.q (.o [.fa 23 (.t 2) 14,
      .ld 24 (.t 23) none,
      .mv 25 (.t 1),
      .cl (some 26) 53 [(.t 24), (.t 25)],
      .mv 1 (.t 26)])
    (.q (.q (.o [.mv 27 (.t 1),
      .bn 28 .lss (.t 27) (.c (.i .i64 0))])
    (.i (.t 28) (.q (.o [.mv 4 (.c (.i .i64 (-1)))])
    (.r))
    (.k)))
    (.q (.o [.mv 29 (.t 1),
      .mv 4 (.t 29)])
    (.r))))))))))⟩
abbrev n_laws_heldMessage : Nat := 18
theorem k_laws_heldMessage : chkF Go.Proofs.Tryd.prog c_laws_heldMessage 18 = true := by kernel_rfl
/-- loop.example/s01858/spec.l04Valid -/
def c_spec_l04Valid : Fn := ⟨1, [(.t 2)],
    .q (.o [.lbx 1 (.t 0),
      .mv 2 (.c (.b false))])
    (.q (.o [.fa 6 (.t 1) 0,
      .ld 7 (.t 6) (some 11),
      .lal 3 (.ag [(.i .i64 0), (.b false), (.i .i64 0), (.b false), (.b false), (.b false), (.b false), (.b false), (.b false), (.b false), (.i .i64 0)]),
      .st (.t 3) (.t 7) 11])
    (.q (.q (.o [.fa 8 (.t 3) 0,
      .ld 9 (.t 8) none,
      .cl (some 10) 26 [(.t 9), (.c (.i .i64 65535))],
      .un 11 .not (.t 10),
      .mv 12 (.t 11),
      .gd 12 false (.fa 13 (.t 3) 2),
      .gd 12 false (.ld 14 (.t 13) none),
      .gd 12 false (.cl (some 15) 26 [(.t 14), (.c (.i .i64 15))]),
      .gd 12 false (.un 16 .not (.t 15)),
      .pk 17 (.t 12) (.c (.b true)) (.t 16),
      .mv 18 (.t 17),
      .gd 18 false (.fa 19 (.t 3) 10),
      .gd 18 false (.ld 20 (.t 19) none),
      .gd 18 false (.cl (some 21) 26 [(.t 20), (.c (.i .i64 15))]),
      .gd 18 false (.un 22 .not (.t 21)),
      .pk 23 (.t 18) (.c (.b true)) (.t 22),
      .mv 24 (.t 23),
      .gd 24 false (.fa 25 (.t 1) 11),
      .gd 24 false (.ld 26 (.t 25) none),
      .gd 24 false (.ln 27 (.t 26)),
      .gd 24 false (.fa 28 (.t 1) 12),
      .gd 24 false (.ld 29 (.t 28) none),
      .gd 24 false (.ln 30 (.t 29)),
      .gd 24 false (.bn 31 .add (.t 27) (.t 30)),
      .gd 24 false (.fa 32 (.t 1) 13),
      .gd 24 false (.ld 33 (.t 32) none),
      .gd 24 false (.ln 34 (.t 33)),
      .gd 24 false (.bn 35 .add (.t 31) (.t 34)),
      .gd 24 false (.fa 36 (.t 1) 14),
      .gd 24 false (.ld 37 (.t 36) none),
      .gd 24 false (.ln 38 (.t 37)),
      .gd 24 false (.bn 39 .add (.t 35) (.t 38)),
      .gd 24 false (.bn 40 .gtr (.t 39) (.c (.i .i64 400))),
      .pk 41 (.t 24) (.c (.b true)) (.t 40)])
    (.i (.t 41) (.q (.o [.mv 2 (.c (.b false))])
    (.r))
    (.k)))
    (.q (.q (.o [.mv 4 (.c (.i .i64 0))])
    (.b 0 (.l [1, 4] (.q (.q (.o [.mv 42 (.t 4),
      .fa 43 (.t 1) 11,
      .ld 44 (.t 43) none,
      .ln 45 (.t 44),
      .bn 46 .lss (.t 42) (.t 45)])
    (.i (.t 46) (.k)
    (.x 0)))
    (.q (.b 1 (.q (.o [.fa 49 (.t 1) 11,
      .ld 50 (.t 49) none,
      .mv 51 (.t 4),
      .ia 52 (.t 50) (.t 51) 3,
      .ld 53 (.t 52) (some 3),
      .lal 5 (.ag [(.s []), (.i .i64 0), (.i .i64 0)]),
      .st (.t 5) (.t 53) 3])
    (.q (.o [.fa 54 (.t 5) 0,
      .ld 55 (.t 54) none,
      .cl (some 56) 73 [(.t 55)],
      .un 57 .not (.t 56),
      .mv 58 (.t 57),
      .gd 58 false (.fa 59 (.t 5) 1),
      .gd 58 false (.ld 60 (.t 59) none),
      .gd 58 false (.cl (some 61) 26 [(.t 60), (.c (.i .i64 65535))]),
      .gd 58 false (.un 62 .not (.t 61)),
      .pk 63 (.t 58) (.c (.b true)) (.t 62),
      .mv 64 (.t 63),
      .gd 64 false (.fa 65 (.t 5) 2),
      .gd 64 false (.ld 66 (.t 65) none),
      .gd 64 false (.cl (some 67) 26 [(.t 66), (.c (.i .i64 65535))]),
      .gd 64 false (.un 68 .not (.t 67)),
      .pk 69 (.t 64) (.c (.b true)) (.t 68)])
    (.i (.t 69) (.q (.o [.mv 2 (.c (.b false))])
    (.r))
    (.k)))))
    (.o [.mv 47 (.t 4),
      .bn 48 .add (.t 47) (.c (.i .i64 1)),
      .mv 4 (.t 48)]))))))
    (.q (.o [.fa 70 (.t 1) 12,
      .ld 71 (.t 70) none,
      .cl (some 72) 74 [(.t 71)],
      .mv 73 (.t 72),
      .gd 73 true (.fa 74 (.t 1) 13),
      .gd 73 true (.ld 75 (.t 74) none),
      .gd 73 true (.cl (some 76) 74 [(.t 75)]),
      .pk 77 (.t 73) (.t 76) (.c (.b false)),
      .mv 78 (.t 77),
      .gd 78 true (.fa 79 (.t 1) 14),
      .gd 78 true (.ld 80 (.t 79) none),
      .gd 78 true (.cl (some 81) 74 [(.t 80)]),
      .pk 82 (.t 78) (.t 81) (.c (.b false)),
      .mv 2 (.t 82)])
    (.r)))))⟩
abbrev n_spec_l04Valid : Nat := 39
theorem k_spec_l04Valid : chkF Go.Proofs.Tryd.prog c_spec_l04Valid 39 = true := by kernel_rfl
/-- loop.example/s01858/spec.l13Truncate -/
def c_spec_l13Truncate : Fn := ⟨2, [(.c 4 (some 15))],
    .q (.o [.lbx 2 (.t 0),
      .lal 4 (.ag [(.i .i64 0), (.b false), (.i .i64 0), (.b false), (.b false), (.b false), (.b false), (.b false), (.b false), (.b false), (.i .i64 0), .ns, .ns, .ns, .ns])])
    (.q (.b 0 (.l [1, 2, 4] (.q (.q (.o [.ld 6 (.t 2) (some 15),
      .cl (some 7) 75 [(.t 6)],
      .ln 8 (.t 7),
      .mv 9 (.t 1),
      .bn 10 .gtr (.t 8) (.t 9)])
    (.i (.t 10) (.k)
    (.x 0)))
    (.b 1 (.q (.o [.mv 5 (.c (.b false))])
    (.q (.o [.fa 12 (.t 2) 14,
      .ld 13 (.t 12) none,
      .cl (some 14) 76 [(.t 13), (.c (.b true))],
      .mv 11 (.t 14),
      .ex 15 (.t 11) 0,
      .ex 16 (.t 11) 1,
      .fa 17 (.t 2) 14,
      .st (.t 17) (.t 15) 1,
      .mv 5 (.t 16)])
    (.q (.q (.o [.mv 18 (.t 5)])
    (.i (.t 18) (.x 1)
    (.k)))
    (.q (.o [.fa 20 (.t 2) 13,
      .ld 21 (.t 20) none,
      .cl (some 22) 76 [(.t 21), (.c (.b false))],
      .mv 19 (.t 22),
      .ex 23 (.t 19) 0,
      .ex 24 (.t 19) 1,
      .fa 25 (.t 2) 13,
      .st (.t 25) (.t 23) 1,
      .mv 5 (.t 24)])
    (.q (.q (.o [.mv 26 (.t 5),
      .un 27 .not (.t 26)])
    (.i (.t 27) (.o [.fa 29 (.t 2) 12,
      .ld 30 (.t 29) none,
      .cl (some 31) 76 [(.t 30), (.c (.b false))],
      .mv 28 (.t 31),
      .ex 32 (.t 28) 0,
      .ex 33 (.t 28) 1,
      .fa 34 (.t 2) 12,
      .st (.t 34) (.t 32) 1,
      .mv 5 (.t 33)])
    (.k)))
    (.q (.q (.o [.mv 35 (.t 5),
      .un 36 .not (.t 35)])
    (.i (.t 36) (.x 0)
    (.k)))
    (.o [.fa 37 (.t 2) 0,
      .fa 38 (.t 37) 4,
      .st (.t 38) (.c (.b true)) 1])))))))))))
    (.q (.o [.ld 39 (.t 2) (some 15),
      .st (.t 4) (.t 39) 15])
    (.r)))⟩
abbrev n_spec_l13Truncate : Nat := 40
theorem k_spec_l13Truncate : chkF Go.Proofs.Tryd.prog c_spec_l13Truncate 40 = true := by kernel_rfl
/-- loop.example/s01858/spec.l13CopyMessage -/
def c_spec_l13CopyMessage : Fn := ⟨1, [(.c 2 (some 15))],
    .q (.o [.lbx 1 (.t 0),
      .lal 2 (.ag [(.i .i64 0), (.b false), (.i .i64 0), (.b false), (.b false), (.b false), (.b false), (.b false), (.b false), (.b false), (.i .i64 0), .ns, .ns, .ns, .ns])])
    (.q (.o [.fa 5 (.t 1) 0,
      .ld 6 (.t 5) (some 11),
      .bd 7 [(.i .i64 0), (.b false), (.i .i64 0), (.b false), (.b false), (.b false), (.b false), (.b false), (.b false), (.b false), (.i .i64 0), .ns, .ns, .ns, .ns] [(0, 11, (.t 6))],
      .lal 3 (.ag [(.i .i64 0), (.b false), (.i .i64 0), (.b false), (.b false), (.b false), (.b false), (.b false), (.b false), (.b false), (.i .i64 0), .ns, .ns, .ns, .ns]),
      .st (.t 3) (.t 7) 15])
    (.q (.q (.o [.mv 4 (.c (.i .i64 0))])
    (.b 0 (.l [1, 2, 3, 4] (.q (.q (.o [.mv 8 (.t 4),
      .fa 9 (.t 1) 11,
      .ld 10 (.t 9) none,
      .ln 11 (.t 10),
      .bn 12 .lss (.t 8) (.t 11)])
    (.i (.t 12) (.k)
    (.x 0)))
    (.q (.b 1 (.p [⟨.fa 15 (.t 3) 11, [], false⟩,
      ⟨.ld 16 (.t 15) none, [], true⟩,
      ⟨.fa 17 (.t 1) 11, [], false⟩,
      ⟨.ld 18 (.t 17) none, [], false⟩,
      ⟨.mv 19 (.t 4), [], false⟩,
      ⟨.ia 20 (.t 18) (.t 19) 3, [], false⟩,
      ⟨.ld 21 (.t 20) (some 3), [], false⟩,
      ⟨.lbs 22 (.ag [(.s []), (.i .i64 0), (.i .i64 0)]) 3 1 [(0, (.t 21))], [1], false⟩,
      ⟨.ap 23 (.t 16) (.t 22) 3 32, [], false⟩,
      ⟨.fa 24 (.t 3) 11, [], false⟩,
      ⟨.st (.t 24) (.t 23) 1, [], false⟩]))
    (.o [.mv 13 (.t 4),
      .bn 14 .add (.t 13) (.c (.i .i64 1)),
      .mv 4 (.t 14)]))))))
    (.q (.o [.bs 25 (.ag [(.s []), (.i .i64 0), (.i .i64 0), (.i .i64 0), (.s [])]) 5 0 [],
      .fa 26 (.t 1) 12,
      .ld 27 (.t 26) none,
      .cl (some 28) 77 [(.t 25), (.t 27)],
      .fa 29 (.t 3) 12,
      .st (.t 29) (.t 28) 1])
    (.q (.o [.bs 30 (.ag [(.s []), (.i .i64 0), (.i .i64 0), (.i .i64 0), (.s [])]) 5 0 [],
      .fa 31 (.t 1) 13,
      .ld 32 (.t 31) none,
      .cl (some 33) 77 [(.t 30), (.t 32)],
      .fa 34 (.t 3) 13,
      .st (.t 34) (.t 33) 1])
    (.q (.o [.bs 35 (.ag [(.s []), (.i .i64 0), (.i .i64 0), (.i .i64 0), (.s [])]) 5 0 [],
      .fa 36 (.t 1) 14,
      .ld 37 (.t 36) none,
      .cl (some 38) 77 [(.t 35), (.t 37)],
      .fa 39 (.t 3) 14,
      .st (.t 39) (.t 38) 1])
    (.q (.o [.ld 40 (.t 3) (some 15),
      .st (.t 2) (.t 40) 15])
    (.r)))))))⟩
abbrev n_spec_l13CopyMessage : Nat := 41
theorem k_spec_l13CopyMessage : chkF Go.Proofs.Tryd.prog c_spec_l13CopyMessage 41 = true := by kernel_rfl
/-- loop.example/s01858/impl.copyMessage -/
def c_impl_copyMessage : Fn := ⟨1, [(.c 2 (some 15))],
    .q (.o [.lbx 1 (.t 0),
      .lal 2 (.ag [(.i .i64 0), (.b false), (.i .i64 0), (.b false), (.b false), (.b false), (.b false), (.b false), (.b false), (.b false), (.i .i64 0), .ns, .ns, .ns, .ns])])
    (.q (.o [.bs 3 (.ag [(.s []), (.i .i64 0), (.i .i64 0)]) 3 0 [],
      .fa 4 (.t 1) 11,
      .ld 5 (.t 4) none,
      .ap 6 (.t 3) (.t 5) 3 32,
      .fa 7 (.t 1) 11,
      .st (.t 7) (.t 6) 1])
    (.q (.o [.bs 8 (.ag [(.s []), (.i .i64 0), (.i .i64 0), (.i .i64 0), (.s [])]) 5 0 [],
      .fa 9 (.t 1) 12,
      .ld 10 (.t 9) none,
      .ap 11 (.t 8) (.t 10) 5 56,
      .fa 12 (.t 1) 12,
      .st (.t 12) (.t 11) 1])
    (.q (.o [.bs 13 (.ag [(.s []), (.i .i64 0), (.i .i64 0), (.i .i64 0), (.s [])]) 5 0 [],
      .fa 14 (.t 1) 13,
      .ld 15 (.t 14) none,
      .ap 16 (.t 13) (.t 15) 5 56,
      .fa 17 (.t 1) 13,
      .st (.t 17) (.t 16) 1])
    (.q (.o [.bs 18 (.ag [(.s []), (.i .i64 0), (.i .i64 0), (.i .i64 0), (.s [])]) 5 0 [],
      .fa 19 (.t 1) 14,
      .ld 20 (.t 19) none,
      .ap 21 (.t 18) (.t 20) 5 56,
      .fa 22 (.t 1) 14,
      .st (.t 22) (.t 21) 1])
    (.q (.o [.ld 23 (.t 1) (some 15),
      .st (.t 2) (.t 23) 15])
    (.r))))))⟩
abbrev n_impl_copyMessage : Nat := 45
theorem k_impl_copyMessage : chkF Go.Proofs.Tryd.prog c_impl_copyMessage 45 = true := by kernel_rfl
/-- loop.example/s01858/impl.dropRun -/
def c_impl_dropRun : Fn := ⟨2, [(.t 4), (.t 5)],
    .q (.o [.mv 4 (.c .ns),
      .mv 5 (.c (.b false))])
    (.q (.o [.mv 9 (.t 0),
      .ln 10 (.t 9),
      .mv 6 (.t 10)])
    (.q (.b 0 (.l [0, 1, 6] (.q (.q (.o [.mv 11 (.t 6),
      .bn 12 .gtr (.t 11) (.c (.i .i64 0)),
      .mv 13 (.t 12),
      .gd 13 true (.mv 14 (.t 1)),
      .pk 15 (.t 13) (.t 14) (.c (.b false)),
      .mv 16 (.t 15),
      .gd 16 true (.mv 17 (.t 0)),
      .gd 16 true (.mv 18 (.t 6)),
      .gd 16 true (.bn 19 .sub (.t 18) (.c (.i .i64 1))),
      .gd 16 true (.ia 20 (.t 17) (.t 19) 5),
      .gd 16 true (.fa 21 (.t 20) 1),
      .gd 16 true (.ld 22 (.t 21) none),
      .gd 16 true (.bn 23 .eql (.t 22) (.c (.i .i64 41))),
      .pk 24 (.t 16) (.t 23) (.c (.b false))])
    (.i (.t 24) (.k)
    (.x 0)))
    (.b 1 (.o [.mv 25 (.t 6),
      .bn 26 .sub (.t 25) (.c (.i .i64 1)),
      .mv 6 (.t 26)])))))
    (.q (.q (.o [.mv 27 (.t 6),
      .bn 28 .eql (.t 27) (.c (.i .i64 0))])
    (.i (.t 28) (.q (.o [.mv 29 (.t 0),
      .mv 4 (.t 29),
      .mv 5 (.c (.b false))])
    (.r))
    (.k)))
    (.q (.o [.mv 30 (.t 0),
      .mv 31 (.t 6),
      .bn 32 .sub (.t 31) (.c (.i .i64 1)),
      .ia 33 (.t 30) (.t 32) 5,
      .ld 34 (.t 33) (some 5),
      .lal 7 (.ag [(.s []), (.i .i64 0), (.i .i64 0), (.i .i64 0), (.s [])]),
      .st (.t 7) (.t 34) 5])
    (.q (.o [.mv 35 (.t 6),
      .bn 36 .sub (.t 35) (.c (.i .i64 1)),
      .mv 8 (.t 36)])
    (.q (.b 2 (.l [0, 6, 7, 8] (.q (.q (.p [⟨.mv 37 (.t 8), [], false⟩,
      ⟨.bn 38 .gtr (.t 37) (.c (.i .i64 0)), [], false⟩,
      ⟨.mv 39 (.t 38), [], false⟩,
      ⟨.gd 39 true (.mv 40 (.t 0)), [], false⟩,
      ⟨.gd 39 true (.mv 41 (.t 8)), [], false⟩,
      ⟨.gd 39 true (.bn 42 .sub (.t 41) (.c (.i .i64 1))), [], false⟩,
      ⟨.gd 39 true (.ia 43 (.t 40) (.t 42) 5), [], false⟩,
      ⟨.gd 39 true (.fa 44 (.t 43) 0), [], false⟩,
      ⟨.gd 39 true (.ld 45 (.t 44) none), [], false⟩,
      ⟨.gd 39 true (.fa 46 (.t 7) 0), [], false⟩,
      ⟨.gd 39 true (.ld 47 (.t 46) none), [], false⟩,
      ⟨.gd 39 true (.bn 48 .eql (.t 45) (.t 47)), [], false⟩,
      ⟨.pk 49 (.t 39) (.t 48) (.c (.b false)), [], false⟩,
      ⟨.mv 50 (.t 49), [], false⟩,
      ⟨.gd 50 true (.mv 51 (.t 0)), [], false⟩,
      ⟨.gd 50 true (.mv 52 (.t 8)), [], false⟩,
      ⟨.gd 50 true (.bn 53 .sub (.t 52) (.c (.i .i64 1))), [], false⟩,
      ⟨.gd 50 true (.ia 54 (.t 51) (.t 53) 5), [], false⟩,
      ⟨.gd 50 true (.fa 55 (.t 54) 1), [], false⟩,
      ⟨.gd 50 true (.ld 56 (.t 55) none), [], false⟩,
      ⟨.gd 50 true (.fa 57 (.t 7) 1), [], false⟩,
      ⟨.gd 50 true (.ld 58 (.t 57) none), [], false⟩,
      ⟨.gd 50 true (.bn 59 .eql (.t 56) (.t 58)), [], false⟩,
      ⟨.pk 60 (.t 50) (.t 59) (.c (.b false)), [], false⟩,
      ⟨.mv 61 (.t 60), [], false⟩,
      ⟨.gd 61 true (.mv 62 (.t 0)), [], false⟩,
      ⟨.gd 61 true (.mv 63 (.t 8)), [], false⟩,
      ⟨.gd 61 true (.bn 64 .sub (.t 63) (.c (.i .i64 1))), [], false⟩,
      ⟨.gd 61 true (.ia 65 (.t 62) (.t 64) 5), [], false⟩,
      ⟨.gd 61 true (.fa 66 (.t 65) 2), [], false⟩,
      ⟨.gd 61 true (.ld 67 (.t 66) none), [], false⟩,
      ⟨.gd 61 true (.fa 68 (.t 7) 2), [], false⟩,
      ⟨.gd 61 true (.ld 69 (.t 68) none), [], false⟩,
      ⟨.gd 61 true (.bn 70 .eql (.t 67) (.t 69)), [], false⟩,
      ⟨.pk 71 (.t 61) (.t 70) (.c (.b false)), [], false⟩])
    (.i (.t 71) (.k)
    (.x 2)))
    (.b 3 (.o [.mv 72 (.t 8),
      .bn 73 .sub (.t 72) (.c (.i .i64 1)),
      .mv 8 (.t 73)])))))
    (.q (.p [⟨.bs 74 (.ag [(.s []), (.i .i64 0), (.i .i64 0), (.i .i64 0), (.s [])]) 5 0 [], [], true⟩,
      ⟨.mv 75 (.t 0), [], false⟩,
      ⟨.mv 76 (.t 8), [], false⟩,
      ⟨.sl 77 (.t 75) none (some (.t 76)) 5, [0], false⟩,
      ⟨.ap 78 (.t 74) (.t 77) 5 56, [], true⟩,
      ⟨.mv 79 (.t 0), [], false⟩,
      ⟨.mv 80 (.t 6), [], false⟩,
      ⟨.sl 81 (.t 79) (some (.t 80)) none 5, [0, 4], false⟩,
      ⟨.ap 82 (.t 78) (.t 81) 5 56, [], false⟩,
      ⟨.mv 4 (.t 82), [], false⟩,
      ⟨.mv 5 (.c (.b true)), [], false⟩])
    (.r))))))))⟩
abbrev n_impl_dropRun : Nat := 46
theorem k_impl_dropRun : chkF Go.Proofs.Tryd.prog c_impl_dropRun 46 = true := by kernel_rfl
/-- loop.example/s01858/laws.heldQuestionS -/
def c_laws_heldQuestionS : Fn := ⟨2, [(.t 4)],
    .q (.o [.mv 4 (.c (.i .i64 0))])
    (.q (.q (.o [.mv 5 (.c (.i .i64 0))])
    (.b 0 (.l [0, 1, 5] (.q (.q (.o [.mv 6 (.t 5),
      .mv 7 (.t 0),
      .ln 8 (.t 7),
      .bn 9 .lss (.t 6) (.t 8)])
    (.i (.t 9) (.k)
    (.x 0)))
    (.q (.b 1 (.q (.q (.p [⟨.mv 12 (.t 0), [], false⟩,
      ⟨.mv 13 (.t 5), [], false⟩,
      ⟨.ia 14 (.t 12) (.t 13) 3, [], true⟩,
      ⟨.fa 15 (.t 14) 0, [], false⟩,
      ⟨.ld 16 (.t 15) none, [], true⟩,
      ⟨.mv 17 (.t 1), [], false⟩,
      ⟨.cl (some 18) 82 [(.t 17)], [2, 4], false⟩,
      ⟨.bn 19 .neq (.t 16) (.t 18), [], false⟩])
    (.i (.t 19) (.q (.o [.mv 4 (.c (.i .i64 (-1)))])
    (.r))
    (.k)))
    (.q (.o [.mv 20 (.t 1),
      .bn 21 .add (.t 20) (.c (.i .i64 1)),
      .mv 1 (.t 21)])
    (.q (.q (.o [.mv 22 (.t 0),
      .mv 23 (.t 5),
      .ia 24 (.t 22) (.t 23) 3,
      .fa 25 (.t 24) 1,
      .ld 26 (.t 25) none,
      .mv 27 (.t 1),
      .bn 28 .neq (.t 26) (.t 27)])
    (.i (.t 28) (.q (.o [.mv 4 (.c (.i .i64 (-1)))])
    (.r))
    (.k)))
    (.q (.o [.mv 29 (.t 1),
      .bn 30 .add (.t 29) (.c (.i .i64 1)),
      .mv 1 (.t 30)])
    (.q (.q (.o [.mv 31 (.t 0),
      .mv 32 (.t 5),
      .ia 33 (.t 31) (.t 32) 3,
      .fa 34 (.t 33) 2,
      .ld 35 (.t 34) none,
      .mv 36 (.t 1),
      .bn 37 .neq (.t 35) (.t 36)])
    (.i (.t 37) (.q (.o [.mv 4 (.c (.i .i64 (-1)))])
    (.r))
    (.k)))
    (.o [.mv 38 (.t 1),
      .bn 39 .add (.t 38) (.c (.i .i64 1)),
      .mv 1 (.t 39)])))))))
    (.o [.mv 10 (.t 5),
      .bn 11 .add (.t 10) (.c (.i .i64 1)),
      .mv 5 (.t 11)]))))))
    (.q (.o [.mv 40 (.t 1),
      .mv 4 (.t 40)])
    (.r)))⟩
abbrev n_laws_heldQuestionS : Nat := 52
theorem k_laws_heldQuestionS : chkF Go.Proofs.Tryd.prog c_laws_heldQuestionS 52 = true := by kernel_rfl
/-- loop.example/s01858/laws.heldRRS -/
def c_laws_heldRRS : Fn := ⟨2, [(.t 4)],
    .q (.o [.mv 4 (.c (.i .i64 0))])
    (.q (.q (.o [.mv 5 (.c (.i .i64 0))])
    (.b 0 (.l [0, 1, 5] (.q (.q (.o [.mv 6 (.t 5),
      .mv 7 (.t 0),
      .ln 8 (.t 7),
      .bn 9 .lss (.t 6) (.t 8)])
    (.i (.t 9) (.k)
    (.x 0)))
    (.q (.b 1 (.q (.q (.p [⟨.mv 12 (.t 0), [], false⟩,
      ⟨.mv 13 (.t 5), [], false⟩,
      ⟨.ia 14 (.t 12) (.t 13) 5, [], true⟩,
      ⟨.fa 15 (.t 14) 0, [], false⟩,
      ⟨.ld 16 (.t 15) none, [], true⟩,
      ⟨.mv 17 (.t 1), [], false⟩,
      ⟨.cl (some 18) 82 [(.t 17)], [2, 4], false⟩,
      ⟨.bn 19 .neq (.t 16) (.t 18), [], false⟩])
    (.i (.t 19) (.q (.o [.mv 4 (.c (.i .i64 (-1)))])
    (.r))
    (.k)))
    (.q (.o [.mv 20 (.t 1),
      .bn 21 .add (.t 20) (.c (.i .i64 1)),
      .mv 1 (.t 21)])
    (.q (.q (.o [.mv 22 (.t 0),
      .mv 23 (.t 5),
      .ia 24 (.t 22) (.t 23) 5,
      .fa 25 (.t 24) 1,
      .ld 26 (.t 25) none,
      .mv 27 (.t 1),
      .bn 28 .neq (.t 26) (.t 27)])
    (.i (.t 28) (.q (.o [.mv 4 (.c (.i .i64 (-1)))])
    (.r))
    (.k)))
    (.q (.o [.mv 29 (.t 1),
      .bn 30 .add (.t 29) (.c (.i .i64 1)),
      .mv 1 (.t 30)])
    (.q (.q (.o [.mv 31 (.t 0),
      .mv 32 (.t 5),
      .ia 33 (.t 31) (.t 32) 5,
      .fa 34 (.t 33) 2,
      .ld 35 (.t 34) none,
      .mv 36 (.t 1),
      .bn 37 .neq (.t 35) (.t 36)])
    (.i (.t 37) (.q (.o [.mv 4 (.c (.i .i64 (-1)))])
    (.r))
    (.k)))
    (.q (.o [.mv 38 (.t 1),
      .bn 39 .add (.t 38) (.c (.i .i64 1)),
      .mv 1 (.t 39)])
    (.q (.q (.o [.mv 40 (.t 0),
      .mv 41 (.t 5),
      .ia 42 (.t 40) (.t 41) 5,
      .fa 43 (.t 42) 3,
      .ld 44 (.t 43) none,
      .mv 45 (.t 1),
      .bn 46 .neq (.t 44) (.t 45)])
    (.i (.t 46) (.q (.o [.mv 4 (.c (.i .i64 (-1)))])
    (.r))
    (.k)))
    (.q (.o [.mv 47 (.t 1),
      .bn 48 .add (.t 47) (.c (.i .i64 1)),
      .mv 1 (.t 48)])
    (.q (.q (.p [⟨.mv 49 (.t 0), [], false⟩,
      ⟨.mv 50 (.t 5), [], false⟩,
      ⟨.ia 51 (.t 49) (.t 50) 5, [], true⟩,
      ⟨.fa 52 (.t 51) 4, [], false⟩,
      ⟨.ld 53 (.t 52) none, [], true⟩,
      ⟨.mv 54 (.t 1), [], false⟩,
      ⟨.cl (some 55) 82 [(.t 54)], [2, 4], false⟩,
      ⟨.bn 56 .neq (.t 53) (.t 55), [], false⟩])
    (.i (.t 56) (.q (.o [.mv 4 (.c (.i .i64 (-1)))])
    (.r))
    (.k)))
    (.o [.mv 57 (.t 1),
      .bn 58 .add (.t 57) (.c (.i .i64 1)),
      .mv 1 (.t 58)])))))))))))
    (.o [.mv 10 (.t 5),
      .bn 11 .add (.t 10) (.c (.i .i64 1)),
      .mv 5 (.t 11)]))))))
    (.q (.o [.mv 59 (.t 1),
      .mv 4 (.t 59)])
    (.r)))⟩
abbrev n_laws_heldRRS : Nat := 53
theorem k_laws_heldRRS : chkF Go.Proofs.Tryd.prog c_laws_heldRRS 53 = true := by kernel_rfl
/-- loop.example/s01858/spec.l04AllSound -/
def c_spec_l04AllSound : Fn := ⟨1, [(.t 2)],
    .q (.o [.mv 2 (.c (.b false))])
    (.q (.q (.o [.mv 3 (.c (.i .i64 0))])
    (.b 0 (.l [0, 3] (.q (.q (.o [.mv 4 (.t 3),
      .mv 5 (.t 0),
      .ln 6 (.t 5),
      .bn 7 .lss (.t 4) (.t 6)])
    (.i (.t 7) (.k)
    (.x 0)))
    (.q (.b 1 (.q (.o [.mv 10 (.t 0),
      .mv 11 (.t 3),
      .ia 12 (.t 10) (.t 11) 5,
      .ld 13 (.t 12) (some 5),
      .cl (some 14) 100 [(.t 13)],
      .un 15 .not (.t 14)])
    (.i (.t 15) (.q (.o [.mv 2 (.c (.b false))])
    (.r))
    (.k))))
    (.o [.mv 8 (.t 3),
      .bn 9 .add (.t 8) (.c (.i .i64 1)),
      .mv 3 (.t 9)]))))))
    (.q (.o [.mv 2 (.c (.b true))])
    (.r)))⟩
abbrev n_spec_l04AllSound : Nat := 74
theorem k_spec_l04AllSound : chkF Go.Proofs.Tryd.prog c_spec_l04AllSound 74 = true := by kernel_rfl
/-- loop.example/s01858/spec.l13Drop -/
def c_spec_l13Drop : Fn := ⟨2, [(.t 4), (.t 5)],
    .q (.o [.mv 4 (.c .ns),
      .mv 5 (.c (.b false))])
    (.q (.o [.mv 8 (.t 0),
      .ln 9 (.t 8),
      .mv 6 (.t 9)])
    (.q (.b 0 (.l [0, 1, 6] (.q (.q (.o [.mv 10 (.t 6),
      .bn 11 .gtr (.t 10) (.c (.i .i64 0)),
      .mv 12 (.t 11),
      .gd 12 true (.mv 13 (.t 1)),
      .pk 14 (.t 12) (.t 13) (.c (.b false)),
      .mv 15 (.t 14),
      .gd 15 true (.mv 16 (.t 0)),
      .gd 15 true (.mv 17 (.t 6)),
      .gd 15 true (.bn 18 .sub (.t 17) (.c (.i .i64 1))),
      .gd 15 true (.ia 19 (.t 16) (.t 18) 5),
      .gd 15 true (.fa 20 (.t 19) 1),
      .gd 15 true (.ld 21 (.t 20) none),
      .gd 15 true (.bn 22 .eql (.t 21) (.c (.i .i64 41))),
      .pk 23 (.t 15) (.t 22) (.c (.b false))])
    (.i (.t 23) (.k)
    (.x 0)))
    (.b 1 (.o [.mv 24 (.t 6),
      .bn 25 .sub (.t 24) (.c (.i .i64 1)),
      .mv 6 (.t 25)])))))
    (.q (.q (.o [.mv 26 (.t 6),
      .bn 27 .eql (.t 26) (.c (.i .i64 0))])
    (.i (.t 27) (.q (.o [.mv 28 (.t 0),
      .mv 4 (.t 28),
      .mv 5 (.c (.b false))])
    (.r))
    (.k)))
    (.q (.o [.mv 29 (.t 6),
      .bn 30 .sub (.t 29) (.c (.i .i64 1)),
      .mv 7 (.t 30)])
    (.q (.b 2 (.l [0, 6, 7] (.q (.q (.p [⟨.mv 31 (.t 7), [], false⟩,
      ⟨.bn 32 .gtr (.t 31) (.c (.i .i64 0)), [], false⟩,
      ⟨.mv 33 (.t 32), [], false⟩,
      ⟨.gd 33 true (.mv 34 (.t 0)), [], false⟩,
      ⟨.gd 33 true (.mv 35 (.t 7)), [], false⟩,
      ⟨.gd 33 true (.bn 36 .sub (.t 35) (.c (.i .i64 1))), [], false⟩,
      ⟨.gd 33 true (.ia 37 (.t 34) (.t 36) 5), [], false⟩,
      ⟨.gd 33 true (.fa 38 (.t 37) 0), [], false⟩,
      ⟨.gd 33 true (.ld 39 (.t 38) none), [], false⟩,
      ⟨.gd 33 true (.mv 40 (.t 0)), [], false⟩,
      ⟨.gd 33 true (.mv 41 (.t 6)), [], false⟩,
      ⟨.gd 33 true (.bn 42 .sub (.t 41) (.c (.i .i64 1))), [], false⟩,
      ⟨.gd 33 true (.ia 43 (.t 40) (.t 42) 5), [], false⟩,
      ⟨.gd 33 true (.fa 44 (.t 43) 0), [], false⟩,
      ⟨.gd 33 true (.ld 45 (.t 44) none), [], false⟩,
      ⟨.gd 33 true (.bn 46 .eql (.t 39) (.t 45)), [], false⟩,
      ⟨.pk 47 (.t 33) (.t 46) (.c (.b false)), [], false⟩,
      ⟨.mv 48 (.t 47), [], false⟩,
      ⟨.gd 48 true (.mv 49 (.t 0)), [], false⟩,
      ⟨.gd 48 true (.mv 50 (.t 7)), [], false⟩,
      ⟨.gd 48 true (.bn 51 .sub (.t 50) (.c (.i .i64 1))), [], false⟩,
      ⟨.gd 48 true (.ia 52 (.t 49) (.t 51) 5), [], false⟩,
      ⟨.gd 48 true (.fa 53 (.t 52) 1), [], false⟩,
      ⟨.gd 48 true (.ld 54 (.t 53) none), [], false⟩,
      ⟨.gd 48 true (.mv 55 (.t 0)), [], false⟩,
      ⟨.gd 48 true (.mv 56 (.t 6)), [], false⟩,
      ⟨.gd 48 true (.bn 57 .sub (.t 56) (.c (.i .i64 1))), [], false⟩,
      ⟨.gd 48 true (.ia 58 (.t 55) (.t 57) 5), [], false⟩,
      ⟨.gd 48 true (.fa 59 (.t 58) 1), [], false⟩,
      ⟨.gd 48 true (.ld 60 (.t 59) none), [], false⟩,
      ⟨.gd 48 true (.bn 61 .eql (.t 54) (.t 60)), [], false⟩,
      ⟨.pk 62 (.t 48) (.t 61) (.c (.b false)), [], false⟩,
      ⟨.mv 63 (.t 62), [], false⟩,
      ⟨.gd 63 true (.mv 64 (.t 0)), [], false⟩,
      ⟨.gd 63 true (.mv 65 (.t 7)), [], false⟩,
      ⟨.gd 63 true (.bn 66 .sub (.t 65) (.c (.i .i64 1))), [], false⟩,
      ⟨.gd 63 true (.ia 67 (.t 64) (.t 66) 5), [], false⟩,
      ⟨.gd 63 true (.fa 68 (.t 67) 2), [], false⟩,
      ⟨.gd 63 true (.ld 69 (.t 68) none), [], false⟩,
      ⟨.gd 63 true (.mv 70 (.t 0)), [], false⟩,
      ⟨.gd 63 true (.mv 71 (.t 6)), [], false⟩,
      ⟨.gd 63 true (.bn 72 .sub (.t 71) (.c (.i .i64 1))), [], false⟩,
      ⟨.gd 63 true (.ia 73 (.t 70) (.t 72) 5), [], false⟩,
      ⟨.gd 63 true (.fa 74 (.t 73) 2), [], false⟩,
      ⟨.gd 63 true (.ld 75 (.t 74) none), [], false⟩,
      ⟨.gd 63 true (.bn 76 .eql (.t 69) (.t 75)), [], false⟩,
      ⟨.pk 77 (.t 63) (.t 76) (.c (.b false)), [], false⟩])
    (.i (.t 77) (.k)
    (.x 2)))
    (.b 3 (.o [.mv 78 (.t 7),
      .bn 79 .sub (.t 78) (.c (.i .i64 1)),
      .mv 7 (.t 79)])))))
    (.q (.p [⟨.bs 80 (.ag [(.s []), (.i .i64 0), (.i .i64 0), (.i .i64 0), (.s [])]) 5 0 [], [], true⟩,
      ⟨.mv 81 (.t 0), [], false⟩,
      ⟨.mv 82 (.t 7), [], false⟩,
      ⟨.sl 83 (.t 81) none (some (.t 82)) 5, [0], false⟩,
      ⟨.cl (some 84) 77 [(.t 80), (.t 83)], [], true⟩,
      ⟨.mv 85 (.t 0), [], false⟩,
      ⟨.mv 86 (.t 6), [], false⟩,
      ⟨.sl 87 (.t 85) (some (.t 86)) none 5, [0, 4], false⟩,
      ⟨.cl (some 88) 77 [(.t 84), (.t 87)], [], false⟩,
      ⟨.mv 4 (.t 88), [], false⟩,
      ⟨.mv 5 (.c (.b true)), [], false⟩])
    (.r)))))))⟩
abbrev n_spec_l13Drop : Nat := 76
theorem k_spec_l13Drop : chkF Go.Proofs.Tryd.prog c_spec_l13Drop 76 = true := by kernel_rfl
/-- loop.example/s01858/spec.l06Join -/
def c_spec_l06Join : Fn := ⟨2, [(.t 4)],
    .q (.o [.mv 4 (.c .ns)])
    (.q (.q (.o [.mv 5 (.c (.i .i64 0))])
    (.b 0 (.l [0, 1, 5] (.q (.q (.o [.mv 6 (.t 5),
      .mv 7 (.t 1),
      .ln 8 (.t 7),
      .bn 9 .lss (.t 6) (.t 8)])
    (.i (.t 9) (.k)
    (.x 0)))
    (.q (.b 1 (.o [.mv 12 (.t 0),
      .mv 13 (.t 1),
      .mv 14 (.t 5),
      .ia 15 (.t 13) (.t 14) 5,
      .ld 16 (.t 15) (some 5),
      .lbs 17 (.ag [(.s []), (.i .i64 0), (.i .i64 0), (.i .i64 0), (.s [])]) 5 1 [(0, (.t 16))],
      .ap 18 (.t 12) (.t 17) 5 56,
      .mv 0 (.t 18)]))
    (.o [.mv 10 (.t 5),
      .bn 11 .add (.t 10) (.c (.i .i64 1)),
      .mv 5 (.t 11)]))))))
    (.q (.o [.mv 19 (.t 0),
      .mv 4 (.t 19)])
    (.r)))⟩
abbrev n_spec_l06Join : Nat := 77
theorem k_spec_l06Join : chkF Go.Proofs.Tryd.prog c_spec_l06Join 77 = true := by kernel_rfl
/-- loop.example/s01858/spec.l04Sound -/
def c_spec_l04Sound : Fn := ⟨1, [(.t 2)],
    .q (.o [.lbx 1 (.t 0),
      .mv 2 (.c (.b false))])
    (.q (.q (.o [.fa 3 (.t 1) 0,
      .ld 4 (.t 3) none,
      .cl (some 5) 73 [(.t 4)],
      .un 6 .not (.t 5),
      .mv 7 (.t 6),
      .gd 7 false (.fa 8 (.t 1) 1),
      .gd 7 false (.ld 9 (.t 8) none),
      .gd 7 false (.cl (some 10) 26 [(.t 9), (.c (.i .i64 65535))]),
      .gd 7 false (.un 11 .not (.t 10)),
      .pk 12 (.t 7) (.c (.b true)) (.t 11),
      .mv 13 (.t 12),
      .gd 13 false (.fa 14 (.t 1) 2),
      .gd 13 false (.ld 15 (.t 14) none),
      .gd 13 false (.cl (some 16) 26 [(.t 15), (.c (.i .i64 65535))]),
      .gd 13 false (.un 17 .not (.t 16)),
      .pk 18 (.t 13) (.c (.b true)) (.t 17),
      .mv 19 (.t 18),
      .gd 19 false (.fa 20 (.t 1) 3),
      .gd 19 false (.ld 21 (.t 20) none),
      .gd 19 false (.cl (some 22) 26 [(.t 21), (.c (.i .i64 4294967295))]),
      .gd 19 false (.un 23 .not (.t 22)),
      .pk 24 (.t 19) (.c (.b true)) (.t 23)])
    (.i (.t 24) (.q (.o [.mv 2 (.c (.b false))])
    (.r))
    (.k)))
    (.q (.o [.fa 25 (.t 1) 4,
      .ld 26 (.t 25) none,
      .bn 27 .eql (.t 26) (.c (.s [])),
      .mv 28 (.t 27),
      .gd 28 false (.fa 29 (.t 1) 1),
      .gd 28 false (.ld 30 (.t 29) none),
      .gd 28 false (.fa 31 (.t 1) 4),
      .gd 28 false (.ld 32 (.t 31) none),
      .gd 28 false (.cl (some 33) 122 [(.t 30), (.t 32)]),
      .gd 28 false (.bn 34 .eql (.t 33) (.c (.i .i64 0))),
      .pk 35 (.t 28) (.c (.b true)) (.t 34),
      .mv 2 (.t 35)])
    (.r)))⟩
abbrev n_spec_l04Sound : Nat := 100
theorem k_spec_l04Sound : chkF Go.Proofs.Tryd.prog c_spec_l04Sound 100 = true := by kernel_rfl
end Go.Vm

/- Valid records and messages: both sides. -/
namespace Go.Vm
set_option linter.unusedVariables false
set_option linter.unusedSimpArgs false
def qOk (q : Qn) : Bool := (nameL q.n).isSome && decide (0 ≤ q.t ∧ q.t ≤ 65535) && decide (0 ≤ q.c ∧ q.c ≤ 65535)
def recOkB (r : Rr) : Bool := (nameL r.o).isSome && decide (0 ≤ r.t ∧ r.t ≤ 65535) && decide (0 ≤ r.c ∧ r.c ≤ 65535) && decide (0 ≤ r.ttl ∧ r.ttl ≤ 4294967295) && (decide (r.d = []) || decide (chk r.t r.d = 0))
def hdOk (h : Hd) : Bool := decide (0 ≤ h.id ∧ h.id ≤ 65535) && decide (0 ≤ h.op ∧ h.op ≤ 15) && decide (0 ≤ h.code ∧ h.code ≤ 15)
def msgOk (m : Msg) : Bool := hdOk m.h && decide (m.q.length + m.an.length + m.au.length + m.ex.length ≤ 400) && m.q.all qOk && (m.an.all recOkB && m.au.all recOkB && m.ex.all recOkB)
theorem all_fail {α : Type} {p : α → Bool} {xs : List α} {i : Nat} (hi : i < xs.length) (h : p xs[i] = false) : xs.all p = false := by
  rw [← Bool.not_eq_true, List.all_eq_true]
  intro hh
  rw [hh _ (List.getElem_mem hi)] at h
  cases h
theorem all_done {α : Type} {p : α → Bool} {xs : List α} (h : ∀ j (hj : j < xs.length), p xs[j] = true) : xs.all p = true := by
  rw [List.all_eq_true]
  intro x hx
  obtain ⟨i, hi, rfl⟩ := List.getElem_of_mem hx
  exact h i hi
def T_recordOk (C : Tab) (f : Nat) : Prop := ∀ (r : Rr) (H : AH), FormsOK H → r.o.length ≤ 1099511627776 → r.d.length ≤ 1099511627776 → ∃ v H', C f [eR.v r] H = some (v, H') ∧ v = .b (recOkB r) ∧ Ext H H'
def T_sound (C : Tab) (f : Nat) : Prop := ∀ (r : Rr) (H : AH), r.o.length ≤ 1099511627776 → r.d.length ≤ 1099511627776 → ∃ v H', C f [eR.v r] H = some (v, H') ∧ v = .b (recOkB r) ∧ Ext H H'
def T_allSound (C : Tab) (f : Nat) : Prop := ∀ (a : AV) (xs : List Rr) (H : AH), Sx H eR a xs → xs.length + tot' w_RR xs ≤ 1048576 → ∃ v H', C f [a] H = some (v, H') ∧ v = .b (xs.all recOkB) ∧ Ext H H'
def T_validS (C : Tab) (f : Nat) : Prop := ∀ (q a b c : AV) (m : Msg) (H : AH), MsgS H q a b c m → szM m ≤ 1048576 → ∃ v H', C f [mV m.h q a b c] H = some (v, H') ∧ v = .b (msgOk m) ∧ Ext H H'
def T_validI (C : Tab) (f : Nat) : Prop := ∀ (q a b c : AV) (m : Msg) (H : AH), FormsOK H → MsgS H q a b c m → szM m ≤ 1048576 → ∃ v H', C f [mV m.h q a b c] H = some (v, H') ∧ v = .b (msgOk m) ∧ Ext H H'
theorem wRR_le {xs : List Rr} {x : Rr} {N : Nat} (h : x ∈ xs) (hN : xs.length + tot' w_RR xs ≤ N) : x.o.length ≤ N ∧ x.d.length ≤ N := by
  have := tot_mem' (w := w_RR) h
  simp only [w_RR] at this
  omega
section
variable {C : Tab}
theorem r_recordOkG {r : Rr} {H : AH} (hN : T_NameOK C n_impl_NameOK) (hW : T_within C n_impl_within) (hC : T_CheckI C n_impl_CheckData) (hF : FormsOK H) (hl : r.o.length ≤ 1099511627776) (hd : r.d.length ≤ 1099511627776) :
    Runs C c_impl_recordOk [eR.v r] H fun v H' => v = .b (recOkB r) ∧ Ext H H' := by
  unfold Runs c_impl_recordOk
  obtain ⟨v, H1, k1, rfl, e1⟩ := hN r.o H (by omega)
  have w1 := hW r.t 0 65535 H1
  have w2 := hW r.c 0 65535 H1
  have w3 := hW r.ttl 0 4294967295 H1
  obtain ⟨v2, H2, k2, rfl, e2⟩ := hC r.t r.d H1 (hF.ext e1) hd
  unfold recOkB
  simp only [Enc.v, eR]
  cases hb1 : (nameL r.o).isSome
  · rw [hb1] at k1
    simp -implicitDefEqProofs only [bU, reduceIte, Nat.reduceEqDiff, reduceCtorEq, implies_true, forall_const, eq_self, Nat.reduceAdd, Nat.reduceLT, bne_self_eq_false, bT, eq_self, true_implies, false_implies, forall_const, if_true, if_false, Int.reduceToNat, Nat.reduceSub, Int.reduceLE, bV, Nat.reduceAdd, Nat.reduceLT, Nat.reduceLeDiff, Nat.reduceLeDiff, k1, Bool.false_and, endK, rsC, rsV, resV]
    exact e1
  rw [hb1] at k1
  cases hb2 : decide (0 ≤ r.t ∧ r.t ≤ 65535)
  · rw [hb2] at w1
    simp -implicitDefEqProofs only [bU, reduceIte, Nat.reduceEqDiff, reduceCtorEq, implies_true, forall_const, eq_self, Nat.reduceAdd, Nat.reduceLT, bne_self_eq_false, bT, eq_self, true_implies, false_implies, forall_const, if_true, if_false, Int.reduceToNat, Nat.reduceSub, Int.reduceLE, bV, Nat.reduceAdd, Nat.reduceLT, Nat.reduceLeDiff, Nat.reduceLeDiff, k1, w1, Bool.false_and, Bool.and_false, endK, rsC, rsV, resV]
    exact e1
  rw [hb2] at w1
  cases hb3 : decide (0 ≤ r.c ∧ r.c ≤ 65535)
  · rw [hb3] at w2
    simp -implicitDefEqProofs only [bU, reduceIte, Nat.reduceEqDiff, reduceCtorEq, implies_true, forall_const, eq_self, Nat.reduceAdd, Nat.reduceLT, bne_self_eq_false, bT, eq_self, true_implies, false_implies, forall_const, if_true, if_false, Int.reduceToNat, Nat.reduceSub, Int.reduceLE, bV, Nat.reduceAdd, Nat.reduceLT, Nat.reduceLeDiff, Nat.reduceLeDiff, k1, w1, w2, Bool.false_and, Bool.and_false, endK, rsC, rsV, resV]
    exact e1
  rw [hb3] at w2
  cases hb4 : decide (0 ≤ r.ttl ∧ r.ttl ≤ 4294967295)
  · rw [hb4] at w3
    simp -implicitDefEqProofs only [bU, reduceIte, Nat.reduceEqDiff, reduceCtorEq, implies_true, forall_const, eq_self, Nat.reduceAdd, Nat.reduceLT, bne_self_eq_false, bT, eq_self, true_implies, false_implies, forall_const, if_true, if_false, Int.reduceToNat, Nat.reduceSub, Int.reduceLE, bV, Nat.reduceAdd, Nat.reduceLT, Nat.reduceLeDiff, Nat.reduceLeDiff, k1, w1, w2, w3, Bool.false_and, Bool.and_false, endK, rsC, rsV, resV]
    exact e1
  rw [hb4] at w3
  by_cases hd0 : r.d = []
  · simp -implicitDefEqProofs only [bU, reduceIte, Nat.reduceEqDiff, reduceCtorEq, implies_true, forall_const, eq_self, Nat.reduceAdd, Nat.reduceLT, bne_self_eq_false, bT, eq_self, true_implies, false_implies, forall_const, if_true, if_false, Int.reduceToNat, Nat.reduceSub, Int.reduceLE, bV, Nat.reduceAdd, Nat.reduceLT, Nat.reduceLeDiff, Nat.reduceLeDiff, k1, w1, w2, w3, hd0, Bool.true_or, endK, rsC, rsV, resV]
    exact e1
  · by_cases hc : chk r.t r.d = 0
    · simp -implicitDefEqProofs only [bU, reduceIte, Nat.reduceEqDiff, reduceCtorEq, implies_true, forall_const, eq_self, Nat.reduceAdd, Nat.reduceLT, bne_self_eq_false, bT, eq_self, true_implies, false_implies, forall_const, if_true, if_false, Int.reduceToNat, Nat.reduceSub, Int.reduceLE, bV, Nat.reduceAdd, Nat.reduceLT, Nat.reduceLeDiff, Nat.reduceLeDiff, k1, w1, w2, w3, hd0, k2, hc, Bool.false_or, endK, rsC, rsV, resV]
      exact e1.trans e2
    · simp -implicitDefEqProofs only [bU, reduceIte, Nat.reduceEqDiff, reduceCtorEq, implies_true, forall_const, eq_self, Nat.reduceAdd, Nat.reduceLT, bne_self_eq_false, bT, eq_self, true_implies, false_implies, forall_const, if_true, if_false, Int.reduceToNat, Nat.reduceSub, Int.reduceLE, bV, Nat.reduceAdd, Nat.reduceLT, Nat.reduceLeDiff, Nat.reduceLeDiff, k1, w1, w2, w3, hd0, k2, hc, Bool.false_or, Bool.and_false, endK, rsC, rsV, resV]
      exact e1.trans e2
theorem r_sound {r : Rr} {H : AH} (hN : T_NameOKs C n_spec_NameOK) (hW : T_in C n_spec_l04In) (hC : T_CheckS C n_spec_CheckData) (hl : r.o.length ≤ 1099511627776) (hd : r.d.length ≤ 1099511627776) :
    Runs C c_spec_l04Sound [eR.v r] H fun v H' => v = .b (recOkB r) ∧ Ext H H' := by
  unfold Runs c_spec_l04Sound
  obtain ⟨v, H1, k1, rfl, e1⟩ := hN r.o H (by omega)
  have w1 := hW r.t 65535 H1
  have w2 := hW r.c 65535 H1
  have w3 := hW r.ttl 4294967295 H1
  obtain ⟨v2, H2, k2, rfl, e2⟩ := hC r.t r.d H1 hd
  unfold recOkB
  simp only [Enc.v, eR]
  cases hb1 : (nameL r.o).isSome
  · rw [hb1] at k1
    simp -implicitDefEqProofs only [bU, reduceIte, Nat.reduceEqDiff, reduceCtorEq, implies_true, forall_const, eq_self, Nat.reduceAdd, Nat.reduceLT, bne_self_eq_false, bT, eq_self, true_implies, false_implies, forall_const, if_true, if_false, Int.reduceToNat, Nat.reduceSub, Int.reduceLE, bV, Nat.reduceAdd, Nat.reduceLT, Nat.reduceLeDiff, Nat.reduceLeDiff, k1, Bool.false_and, endK, rsC, rsV, resV]
    exact e1
  rw [hb1] at k1
  cases hb2 : decide (0 ≤ r.t ∧ r.t ≤ 65535)
  · rw [hb2] at w1
    simp -implicitDefEqProofs only [bU, reduceIte, Nat.reduceEqDiff, reduceCtorEq, implies_true, forall_const, eq_self, Nat.reduceAdd, Nat.reduceLT, bne_self_eq_false, bT, eq_self, true_implies, false_implies, forall_const, if_true, if_false, Int.reduceToNat, Nat.reduceSub, Int.reduceLE, bV, Nat.reduceAdd, Nat.reduceLT, Nat.reduceLeDiff, Nat.reduceLeDiff, k1, w1, Bool.false_and, Bool.and_false, endK, rsC, rsV, resV]
    exact e1
  rw [hb2] at w1
  cases hb3 : decide (0 ≤ r.c ∧ r.c ≤ 65535)
  · rw [hb3] at w2
    simp -implicitDefEqProofs only [bU, reduceIte, Nat.reduceEqDiff, reduceCtorEq, implies_true, forall_const, eq_self, Nat.reduceAdd, Nat.reduceLT, bne_self_eq_false, bT, eq_self, true_implies, false_implies, forall_const, if_true, if_false, Int.reduceToNat, Nat.reduceSub, Int.reduceLE, bV, Nat.reduceAdd, Nat.reduceLT, Nat.reduceLeDiff, Nat.reduceLeDiff, k1, w1, w2, Bool.false_and, Bool.and_false, endK, rsC, rsV, resV]
    exact e1
  rw [hb3] at w2
  cases hb4 : decide (0 ≤ r.ttl ∧ r.ttl ≤ 4294967295)
  · rw [hb4] at w3
    simp -implicitDefEqProofs only [bU, reduceIte, Nat.reduceEqDiff, reduceCtorEq, implies_true, forall_const, eq_self, Nat.reduceAdd, Nat.reduceLT, bne_self_eq_false, bT, eq_self, true_implies, false_implies, forall_const, if_true, if_false, Int.reduceToNat, Nat.reduceSub, Int.reduceLE, bV, Nat.reduceAdd, Nat.reduceLT, Nat.reduceLeDiff, Nat.reduceLeDiff, k1, w1, w2, w3, Bool.false_and, Bool.and_false, endK, rsC, rsV, resV]
    exact e1
  rw [hb4] at w3
  by_cases hd0 : r.d = []
  · simp -implicitDefEqProofs only [bU, reduceIte, Nat.reduceEqDiff, reduceCtorEq, implies_true, forall_const, eq_self, Nat.reduceAdd, Nat.reduceLT, bne_self_eq_false, bT, eq_self, true_implies, false_implies, forall_const, if_true, if_false, Int.reduceToNat, Nat.reduceSub, Int.reduceLE, bV, Nat.reduceAdd, Nat.reduceLT, Nat.reduceLeDiff, Nat.reduceLeDiff, k1, w1, w2, w3, hd0, Bool.true_or, endK, rsC, rsV, resV]
    exact e1
  · by_cases hc : chk r.t r.d = 0
    · simp -implicitDefEqProofs only [bU, reduceIte, Nat.reduceEqDiff, reduceCtorEq, implies_true, forall_const, eq_self, Nat.reduceAdd, Nat.reduceLT, bne_self_eq_false, bT, eq_self, true_implies, false_implies, forall_const, if_true, if_false, Int.reduceToNat, Nat.reduceSub, Int.reduceLE, bV, Nat.reduceAdd, Nat.reduceLT, Nat.reduceLeDiff, Nat.reduceLeDiff, k1, w1, w2, w3, hd0, k2, hc, Bool.false_or, endK, rsC, rsV, resV]
      exact e1.trans e2
    · simp -implicitDefEqProofs only [bU, reduceIte, Nat.reduceEqDiff, reduceCtorEq, implies_true, forall_const, eq_self, Nat.reduceAdd, Nat.reduceLT, bne_self_eq_false, bT, eq_self, true_implies, false_implies, forall_const, if_true, if_false, Int.reduceToNat, Nat.reduceSub, Int.reduceLE, bV, Nat.reduceAdd, Nat.reduceLT, Nat.reduceLeDiff, Nat.reduceLeDiff, k1, w1, w2, w3, hd0, k2, hc, Bool.false_or, Bool.and_false, endK, rsC, rsV, resV]
      exact e1.trans e2
theorem r_allSound {a : AV} {xs : List Rr} {H : AH} (hS : T_sound C n_spec_l04Sound) (h : Sx H eR a xs) (hn : xs.length + tot' w_RR xs ≤ 1048576) : Runs C c_spec_l04AllSound [a] H fun v H' => v = .b (xs.all recOkB) ∧ Ext H H' := by
  unfold Runs c_spec_l04AllSound
  obtain ⟨h1, h2⟩ := h.len
  simp -implicitDefEqProofs only [bU, reduceIte, Nat.reduceEqDiff, reduceCtorEq, implies_true, forall_const, eq_self, Nat.reduceAdd, Nat.reduceLT, bne_self_eq_false, bT, eq_self, true_implies, false_implies, forall_const, if_true, if_false, Int.reduceToNat, Nat.reduceSub, Int.reduceLE]
  refine exec_loop (fun n e M => ∃ (i : Nat) (H' : AH) (L : List Lv) (g : Nat), i ≤ xs.length ∧ n = xs.length - i ∧ look e 0 = a ∧ look e 3 = .i .i64 i ∧ M = ⟨L, g, H'⟩ ∧ Ext H H' ∧ ∀ j (hj : j < xs.length), j < i → recOkB xs[j] = true) ?_ (n := xs.length) ⟨0, H, _, _, by omega, by omega, rfl, rfl, rfl, .refl _, fun j _ hj => by omega⟩
  rintro n e M ⟨i, H', L, g, hi, rfl, q0, q3, rfl, he, hall⟩
  by_cases hlt : (i : Int) < xs.length
  · have hil : i < xs.length := by omega
    obtain ⟨b1, b2, b3, b4⟩ := Sx.at' (Sl.ext h he) hil
    obtain ⟨l1, l2⟩ := wRR_le (List.getElem_mem hil) hn
    obtain ⟨v, H2, k1, rfl, e2⟩ := hS xs[i] H' (by omega) (by omega)
    have w9 : IntKind.i64.wrap ((i : Int) + 1) = ((i + 1 : Nat) : Int) := by rw [w64 (by omega) (by omega)]; rfl
    have hout : (eR.v xs[i]).outs = true := rfl
    simp only [show eR.z = 5 from rfl] at b1 b3 b4
    cases hb : recOkB xs[i]
    · rw [hb] at k1
      simp -implicitDefEqProofs only [bU, reduceIte, Nat.reduceEqDiff, reduceCtorEq, implies_true, forall_const, eq_self, Nat.reduceAdd, Nat.reduceLT, bne_self_eq_false, bT, eq_self, true_implies, false_implies, forall_const, if_true, if_false, Int.reduceToNat, Nat.reduceSub, Int.reduceLE, q0, q3, h1, h2, hlt, b1, b2, b3, b4, hout, toNat_nat, k1, endK, rsC, rsV, resV]
      exact ⟨by rw [all_fail hil hb], he.trans e2⟩
    · rw [hb] at k1
      simp -implicitDefEqProofs only [bU, reduceIte, Nat.reduceEqDiff, reduceCtorEq, implies_true, forall_const, eq_self, Nat.reduceAdd, Nat.reduceLT, bne_self_eq_false, bT, eq_self, true_implies, false_implies, forall_const, if_true, if_false, Int.reduceToNat, Nat.reduceSub, Int.reduceLE, q0, q3, h1, h2, hlt, b1, b2, b3, b4, hout, toNat_nat, k1, w9]
      refine ⟨xs.length - (i + 1), by omega, i + 1, H2, _, _, by omega, rfl, rfl, rfl, he.trans e2, fun j hj hji => ?_⟩
      by_cases hje : j = i
      · subst hje; exact hb
      · exact hall j hj (by omega)
  · simp -implicitDefEqProofs only [bU, reduceIte, Nat.reduceEqDiff, reduceCtorEq, implies_true, forall_const, eq_self, Nat.reduceAdd, Nat.reduceLT, bne_self_eq_false, bT, eq_self, true_implies, false_implies, forall_const, if_true, if_false, Int.reduceToNat, Nat.reduceSub, Int.reduceLE, q0, q3, h1, h2, hlt, endK, rsC, rsV, resV]
    exact ⟨by rw [all_done fun j hj => hall j hj (by omega)], he⟩
end
end Go.Vm

/- Valid messages: both sides. -/
namespace Go.Vm
set_option linter.unusedVariables false
set_option linter.unusedSimpArgs false
theorem msgOk_false1 {m : Msg} (h : hdOk m.h = false) : msgOk m = false := by simp [msgOk, h]
theorem bools {p : Prop} [Decidable p] (h : ¬ p) : decide p = false := decide_eq_false h
section
variable {C : Tab}
set_option maxHeartbeats 1000000 in
theorem r_validS {q a b c : AV} {m : Msg} {H : AH} (hN : T_NameOKs C n_spec_NameOK) (hW : T_in C n_spec_l04In) (hA : T_allSound C n_spec_l04AllSound) (h : MsgS H q a b c m) (hs : szM m ≤ 1048576) :
    Runs C c_spec_l04Valid [mV m.h q a b c] H fun v H' => v = .b (msgOk m) ∧ Ext H H' := by
  unfold Runs c_spec_l04Valid mV
  have o1 := h.hq.out
  have o2 := h.ha.out
  have o3 := h.hb.out
  have o4 := h.hc.out
  have y1 := h.hq.one
  have y2 := h.ha.one
  have y3 := h.hb.one
  have y4 := h.hc.one
  obtain ⟨l1, m1⟩ := h.hq.len
  obtain ⟨l2, m2⟩ := h.ha.len
  obtain ⟨l3, m3⟩ := h.hb.len
  obtain ⟨l4, m4⟩ := h.hc.len
  have hs' := hs
  unfold szM at hs'
  have w1 := hW m.h.id 65535 H
  have w2 := hW m.h.op 15 H
  have w3 := hW m.h.code 15 H
  cases hb1 : decide (0 ≤ m.h.id ∧ m.h.id ≤ 65535)
  · rw [hb1] at w1
    simp -implicitDefEqProofs only [bU, reduceIte, Nat.reduceEqDiff, reduceCtorEq, implies_true, forall_const, eq_self, Nat.reduceAdd, Nat.reduceLT, bne_self_eq_false, bT, eq_self, true_implies, false_implies, forall_const, if_true, if_false, Int.reduceToNat, Nat.reduceSub, Int.reduceLE, bV, Nat.reduceAdd, Nat.reduceLT, Nat.reduceLeDiff, Nat.reduceLeDiff, o1, o2, o3, o4, y1, y2, y3, y4, w1, endK, rsC, rsV, resV]
    exact ⟨by rw [msgOk_false1 (by simp only [hdOk, hb1, Bool.false_and])], .refl _⟩
  rw [hb1] at w1
  cases hb2 : decide (0 ≤ m.h.op ∧ m.h.op ≤ 15)
  · rw [hb2] at w2
    simp -implicitDefEqProofs only [bU, reduceIte, Nat.reduceEqDiff, reduceCtorEq, implies_true, forall_const, eq_self, Nat.reduceAdd, Nat.reduceLT, bne_self_eq_false, bT, eq_self, true_implies, false_implies, forall_const, if_true, if_false, Int.reduceToNat, Nat.reduceSub, Int.reduceLE, bV, Nat.reduceAdd, Nat.reduceLT, Nat.reduceLeDiff, Nat.reduceLeDiff, o1, o2, o3, o4, y1, y2, y3, y4, w1, w2, endK, rsC, rsV, resV]
    exact ⟨by rw [msgOk_false1 (by simp only [hdOk, hb2, Bool.false_and, Bool.and_false])], .refl _⟩
  rw [hb2] at w2
  cases hb3 : decide (0 ≤ m.h.code ∧ m.h.code ≤ 15)
  · rw [hb3] at w3
    simp -implicitDefEqProofs only [bU, reduceIte, Nat.reduceEqDiff, reduceCtorEq, implies_true, forall_const, eq_self, Nat.reduceAdd, Nat.reduceLT, bne_self_eq_false, bT, eq_self, true_implies, false_implies, forall_const, if_true, if_false, Int.reduceToNat, Nat.reduceSub, Int.reduceLE, bV, Nat.reduceAdd, Nat.reduceLT, Nat.reduceLeDiff, Nat.reduceLeDiff, o1, o2, o3, o4, y1, y2, y3, y4, w1, w2, w3, endK, rsC, rsV, resV]
    exact ⟨by rw [msgOk_false1 (by simp only [hdOk, hb3, Bool.and_false])], .refl _⟩
  rw [hb3] at w3
  have hhd : hdOk m.h = true := by simp only [hdOk, hb1, hb2, hb3, Bool.and_self]
  have s1 : IntKind.i64.wrap ((m.q.length : Int) + (m.an.length : Int)) = ((m.q.length + m.an.length : Nat) : Int) := by rw [w64 (by omega) (by omega)]; rfl
  have s2 : IntKind.i64.wrap (((m.q.length + m.an.length : Nat) : Int) + (m.au.length : Int)) = ((m.q.length + m.an.length + m.au.length : Nat) : Int) := by rw [w64 (by omega) (by omega)]; rfl
  have s3 : IntKind.i64.wrap (((m.q.length + m.an.length + m.au.length : Nat) : Int) + (m.ex.length : Int)) = ((m.q.length + m.an.length + m.au.length + m.ex.length : Nat) : Int) := by rw [w64 (by omega) (by omega)]; rfl
  by_cases hbig : (400 : Int) < ((m.q.length + m.an.length + m.au.length + m.ex.length : Nat) : Int)
  · simp -implicitDefEqProofs only [bU, reduceIte, Nat.reduceEqDiff, reduceCtorEq, implies_true, forall_const, eq_self, Nat.reduceAdd, Nat.reduceLT, bne_self_eq_false, bT, eq_self, true_implies, false_implies, forall_const, if_true, if_false, Int.reduceToNat, Nat.reduceSub, Int.reduceLE, bV, Nat.reduceAdd, Nat.reduceLT, Nat.reduceLeDiff, Nat.reduceLeDiff, o1, o2, o3, o4, y1, y2, y3, y4, w1, w2, w3, l1, l2, l3, l4, m1, m2, m3, m4, s1, s2, s3, hbig, endK, rsC, rsV, resV]
    exact ⟨by rw [msgOk, hhd, bools (p := m.q.length + m.an.length + m.au.length + m.ex.length ≤ 400) (by omega)]; simp, .refl _⟩
  have hcnt : decide (m.q.length + m.an.length + m.au.length + m.ex.length ≤ 400) = true := decide_eq_true (by omega)
  simp -implicitDefEqProofs only [bU, reduceIte, Nat.reduceEqDiff, reduceCtorEq, implies_true, forall_const, eq_self, Nat.reduceAdd, Nat.reduceLT, bne_self_eq_false, bT, eq_self, true_implies, false_implies, forall_const, if_true, if_false, Int.reduceToNat, Nat.reduceSub, Int.reduceLE, bV, Nat.reduceAdd, Nat.reduceLT, Nat.reduceLeDiff, Nat.reduceLeDiff, o1, o2, o3, o4, y1, y2, y3, y4, w1, w2, w3, l1, l2, l3, l4, m1, m2, m3, m4, s1, s2, s3, hbig]
  refine exec_loop (fun n e M => ∃ (i : Nat) (H' : AH) (L : List Lv) (g : Nat), i ≤ m.q.length ∧ n = m.q.length - i ∧ look e 1 = .la 1 0 0 0 ∧ look e 4 = .i .i64 i ∧ M = ⟨L, g, H'⟩ ∧ keepL [1, 4] L = [⟨1, 0, 0, [mV m.h q a b c]⟩] ∧ Ext H H' ∧ ∀ j (hj : j < m.q.length), j < i → qOk m.q[j] = true) ?_ (n := m.q.length) ⟨0, H, _, _, by omega, by omega, rfl, rfl, rfl, rfl, .refl _, fun j _ hj => by omega⟩
  rintro n e M ⟨i, H', L, g, hi, rfl, q1, q4, rfl, hL, he, hall⟩
  unfold mV at hL
  have hi64 : m.q.length ≤ 1048576 := by omega
  by_cases hlt : (i : Int) < m.q.length
  · have hil : i < m.q.length := by omega
    obtain ⟨b1, b2, b3, b4⟩ := Sx.at' (Sl.ext h.hq he) hil
    have hw := tot_mem' (w := w_Question) (List.getElem_mem hil)
    simp only [w_Question] at hw
    obtain ⟨v, H2, k1, rfl, e2⟩ := hN m.q[i].n H' (by omega)
    have x1 := hW m.q[i].t 65535 H2
    have x2 := hW m.q[i].c 65535 H2
    have w9 : IntKind.i64.wrap ((i : Int) + 1) = ((i + 1 : Nat) : Int) := by rw [w64 (by omega) (by omega)]; rfl
    simp only [show eQ.z = 3 from rfl, show eQ.v m.q[i] = AV.ag [.s m.q[i].n, .i .i64 m.q[i].t, .i .i64 m.q[i].c] from rfl] at b1 b3 b4
    have bad : qOk m.q[i] = false → msgOk m = false := fun hq => by rw [msgOk, all_fail hil hq]; simp
    cases c1 : (nameL m.q[i].n).isSome
    · rw [c1] at k1
      simp -implicitDefEqProofs only [bU, reduceIte, Nat.reduceEqDiff, reduceCtorEq, implies_true, forall_const, eq_self, Nat.reduceAdd, Nat.reduceLT, bne_self_eq_false, bT, eq_self, true_implies, false_implies, forall_const, if_true, if_false, Int.reduceToNat, Nat.reduceSub, Int.reduceLE, bV, Nat.reduceAdd, Nat.reduceLT, Nat.reduceLeDiff, Nat.reduceLeDiff, q1, q4, hL, o1, o2, o3, o4, y1, y2, y3, y4, l1, m1, hlt, b1, b2, b3, b4, toNat_nat, k1, endK, rsC, rsV, resV]
      exact ⟨by rw [bad (by simp only [qOk, c1, Bool.false_and])], he.trans e2⟩
    rw [c1] at k1
    cases c2 : decide (0 ≤ m.q[i].t ∧ m.q[i].t ≤ 65535)
    · rw [c2] at x1
      simp -implicitDefEqProofs only [bU, reduceIte, Nat.reduceEqDiff, reduceCtorEq, implies_true, forall_const, eq_self, Nat.reduceAdd, Nat.reduceLT, bne_self_eq_false, bT, eq_self, true_implies, false_implies, forall_const, if_true, if_false, Int.reduceToNat, Nat.reduceSub, Int.reduceLE, bV, Nat.reduceAdd, Nat.reduceLT, Nat.reduceLeDiff, Nat.reduceLeDiff, q1, q4, hL, o1, o2, o3, o4, y1, y2, y3, y4, l1, m1, hlt, b1, b2, b3, b4, toNat_nat, k1, x1, endK, rsC, rsV, resV]
      exact ⟨by rw [bad (by simp only [qOk, c2, Bool.false_and, Bool.and_false])], he.trans e2⟩
    rw [c2] at x1
    cases c3 : decide (0 ≤ m.q[i].c ∧ m.q[i].c ≤ 65535)
    · rw [c3] at x2
      simp -implicitDefEqProofs only [bU, reduceIte, Nat.reduceEqDiff, reduceCtorEq, implies_true, forall_const, eq_self, Nat.reduceAdd, Nat.reduceLT, bne_self_eq_false, bT, eq_self, true_implies, false_implies, forall_const, if_true, if_false, Int.reduceToNat, Nat.reduceSub, Int.reduceLE, bV, Nat.reduceAdd, Nat.reduceLT, Nat.reduceLeDiff, Nat.reduceLeDiff, q1, q4, hL, o1, o2, o3, o4, y1, y2, y3, y4, l1, m1, hlt, b1, b2, b3, b4, toNat_nat, k1, x1, x2, endK, rsC, rsV, resV]
      exact ⟨by rw [bad (by simp only [qOk, c3, Bool.and_false])], he.trans e2⟩
    rw [c3] at x2
    simp -implicitDefEqProofs only [bU, reduceIte, Nat.reduceEqDiff, reduceCtorEq, implies_true, forall_const, eq_self, Nat.reduceAdd, Nat.reduceLT, bne_self_eq_false, bT, eq_self, true_implies, false_implies, forall_const, if_true, if_false, Int.reduceToNat, Nat.reduceSub, Int.reduceLE, bV, Nat.reduceAdd, Nat.reduceLT, Nat.reduceLeDiff, Nat.reduceLeDiff, q1, q4, hL, o1, o2, o3, o4, y1, y2, y3, y4, l1, m1, hlt, b1, b2, b3, b4, toNat_nat, k1, x1, x2, w9]
    refine ⟨m.q.length - (i + 1), by omega, i + 1, H2, _, _, by omega, rfl, rfl, rfl, rfl, he.trans e2, fun j hj hji => ?_⟩
    by_cases hje : j = i
    · subst hje; simp only [qOk, c1, c2, c3, Bool.and_self]
    · exact hall j hj (by omega)
  · have hq : m.q.all qOk = true := all_done fun j hj => hall j hj (by omega)
    have hmo : msgOk m = (m.an.all recOkB && m.au.all recOkB && m.ex.all recOkB) := by rw [msgOk, hhd, hcnt, hq]; rfl
    rw [hmo]
    obtain ⟨v1, H1, k1, rfl, e1⟩ := hA a m.an H' (Sl.ext h.ha he) (by omega)
    obtain ⟨v2, H2, k2, rfl, e2⟩ := hA b m.au H1 (Sl.ext h.hb (he.trans e1)) (by omega)
    obtain ⟨v3, H3, k3, rfl, e3⟩ := hA c m.ex H2 (Sl.ext h.hc ((he.trans e1).trans e2)) (by omega)
    cases c1 : m.an.all recOkB
    · rw [c1] at k1
      simp -implicitDefEqProofs only [bU, reduceIte, Nat.reduceEqDiff, reduceCtorEq, implies_true, forall_const, eq_self, Nat.reduceAdd, Nat.reduceLT, bne_self_eq_false, bT, eq_self, true_implies, false_implies, forall_const, if_true, if_false, Int.reduceToNat, Nat.reduceSub, Int.reduceLE, bV, Nat.reduceAdd, Nat.reduceLT, Nat.reduceLeDiff, Nat.reduceLeDiff, q1, q4, hL, o1, o2, o3, o4, y1, y2, y3, y4, l1, m1, hlt, k1, Bool.false_and, endK, rsC, rsV, resV]
      exact he.trans e1
    rw [c1] at k1
    cases c2 : m.au.all recOkB
    · rw [c2] at k2
      simp -implicitDefEqProofs only [bU, reduceIte, Nat.reduceEqDiff, reduceCtorEq, implies_true, forall_const, eq_self, Nat.reduceAdd, Nat.reduceLT, bne_self_eq_false, bT, eq_self, true_implies, false_implies, forall_const, if_true, if_false, Int.reduceToNat, Nat.reduceSub, Int.reduceLE, bV, Nat.reduceAdd, Nat.reduceLT, Nat.reduceLeDiff, Nat.reduceLeDiff, q1, q4, hL, o1, o2, o3, o4, y1, y2, y3, y4, l1, m1, hlt, k1, k2, Bool.and_false, Bool.false_and, endK, rsC, rsV, resV]
      exact (he.trans e1).trans e2
    rw [c2] at k2
    simp -implicitDefEqProofs only [bU, reduceIte, Nat.reduceEqDiff, reduceCtorEq, implies_true, forall_const, eq_self, Nat.reduceAdd, Nat.reduceLT, bne_self_eq_false, bT, eq_self, true_implies, false_implies, forall_const, if_true, if_false, Int.reduceToNat, Nat.reduceSub, Int.reduceLE, bV, Nat.reduceAdd, Nat.reduceLT, Nat.reduceLeDiff, Nat.reduceLeDiff, q1, q4, hL, o1, o2, o3, o4, y1, y2, y3, y4, l1, m1, hlt, k1, k2, k3, endK, rsC, rsV, resV]
    exact ((he.trans e1).trans e2).trans e3
end
end Go.Vm

/- Valid messages: the program's side. -/
namespace Go.Vm
set_option linter.unusedVariables false
set_option linter.unusedSimpArgs false
section
variable {C : Tab}
set_option maxHeartbeats 1000000 in
theorem r_validI {q a b c : AV} {m : Msg} {H : AH} (hN : T_NameOK C n_impl_NameOK) (hW : T_within C n_impl_within) (hR : T_recordOk C n_impl_recordOk) (hF : FormsOK H) (h : MsgS H q a b c m) (hs : szM m ≤ 1048576) :
    Runs C c_impl_validMessage [mV m.h q a b c] H fun v H' => v = .b (msgOk m) ∧ Ext H H' := by
  unfold Runs c_impl_validMessage mV
  have o1 := h.hq.out
  have o2 := h.ha.out
  have o3 := h.hb.out
  have o4 := h.hc.out
  have y1 := h.hq.one
  have y2 := h.ha.one
  have y3 := h.hb.one
  have y4 := h.hc.one
  obtain ⟨l1, m1⟩ := h.hq.len
  obtain ⟨l2, m2⟩ := h.ha.len
  obtain ⟨l3, m3⟩ := h.hb.len
  obtain ⟨l4, m4⟩ := h.hc.len
  have hs' := hs
  unfold szM at hs'
  have w1 := hW m.h.id 0 65535 H
  have w2 := hW m.h.op 0 15 H
  have w3 := hW m.h.code 0 15 H
  cases hb1 : decide (0 ≤ m.h.id ∧ m.h.id ≤ 65535)
  · rw [hb1] at w1
    simp -implicitDefEqProofs only [bU, reduceIte, Nat.reduceEqDiff, reduceCtorEq, implies_true, forall_const, eq_self, Nat.reduceAdd, Nat.reduceLT, bne_self_eq_false, bT, eq_self, true_implies, false_implies, forall_const, if_true, if_false, Int.reduceToNat, Nat.reduceSub, Int.reduceLE, bV, Nat.reduceAdd, Nat.reduceLT, Nat.reduceLeDiff, Nat.reduceLeDiff, o1, o2, o3, o4, y1, y2, y3, y4, w1, endK, rsC, rsV, resV]
    exact ⟨by rw [msgOk_false1 (by simp only [hdOk, hb1, Bool.false_and])], .refl _⟩
  rw [hb1] at w1
  cases hb2 : decide (0 ≤ m.h.op ∧ m.h.op ≤ 15)
  · rw [hb2] at w2
    simp -implicitDefEqProofs only [bU, reduceIte, Nat.reduceEqDiff, reduceCtorEq, implies_true, forall_const, eq_self, Nat.reduceAdd, Nat.reduceLT, bne_self_eq_false, bT, eq_self, true_implies, false_implies, forall_const, if_true, if_false, Int.reduceToNat, Nat.reduceSub, Int.reduceLE, bV, Nat.reduceAdd, Nat.reduceLT, Nat.reduceLeDiff, Nat.reduceLeDiff, o1, o2, o3, o4, y1, y2, y3, y4, w1, w2, endK, rsC, rsV, resV]
    exact ⟨by rw [msgOk_false1 (by simp only [hdOk, hb2, Bool.false_and, Bool.and_false])], .refl _⟩
  rw [hb2] at w2
  cases hb3 : decide (0 ≤ m.h.code ∧ m.h.code ≤ 15)
  · rw [hb3] at w3
    simp -implicitDefEqProofs only [bU, reduceIte, Nat.reduceEqDiff, reduceCtorEq, implies_true, forall_const, eq_self, Nat.reduceAdd, Nat.reduceLT, bne_self_eq_false, bT, eq_self, true_implies, false_implies, forall_const, if_true, if_false, Int.reduceToNat, Nat.reduceSub, Int.reduceLE, bV, Nat.reduceAdd, Nat.reduceLT, Nat.reduceLeDiff, Nat.reduceLeDiff, o1, o2, o3, o4, y1, y2, y3, y4, w1, w2, w3, endK, rsC, rsV, resV]
    exact ⟨by rw [msgOk_false1 (by simp only [hdOk, hb3, Bool.and_false])], .refl _⟩
  rw [hb3] at w3
  have hhd : hdOk m.h = true := by simp only [hdOk, hb1, hb2, hb3, Bool.and_self]
  have s1 : IntKind.i64.wrap ((m.q.length : Int) + (m.an.length : Int)) = ((m.q.length + m.an.length : Nat) : Int) := by rw [w64 (by omega) (by omega)]; rfl
  have s2 : IntKind.i64.wrap (((m.q.length + m.an.length : Nat) : Int) + (m.au.length : Int)) = ((m.q.length + m.an.length + m.au.length : Nat) : Int) := by rw [w64 (by omega) (by omega)]; rfl
  have s3 : IntKind.i64.wrap (((m.q.length + m.an.length + m.au.length : Nat) : Int) + (m.ex.length : Int)) = ((m.q.length + m.an.length + m.au.length + m.ex.length : Nat) : Int) := by rw [w64 (by omega) (by omega)]; rfl
  by_cases hbig : (400 : Int) < ((m.q.length + m.an.length + m.au.length + m.ex.length : Nat) : Int)
  · simp -implicitDefEqProofs only [bU, reduceIte, Nat.reduceEqDiff, reduceCtorEq, implies_true, forall_const, eq_self, Nat.reduceAdd, Nat.reduceLT, bne_self_eq_false, bT, eq_self, true_implies, false_implies, forall_const, if_true, if_false, Int.reduceToNat, Nat.reduceSub, Int.reduceLE, bV, Nat.reduceAdd, Nat.reduceLT, Nat.reduceLeDiff, Nat.reduceLeDiff, o1, o2, o3, o4, y1, y2, y3, y4, w1, w2, w3, l1, l2, l3, l4, m1, m2, m3, m4, s1, s2, s3, hbig, endK, rsC, rsV, resV]
    exact ⟨by rw [msgOk, hhd, bools (p := m.q.length + m.an.length + m.au.length + m.ex.length ≤ 400) (by omega)]; simp, .refl _⟩
  have hcnt : decide (m.q.length + m.an.length + m.au.length + m.ex.length ≤ 400) = true := decide_eq_true (by omega)
  simp -implicitDefEqProofs only [bU, reduceIte, Nat.reduceEqDiff, reduceCtorEq, implies_true, forall_const, eq_self, Nat.reduceAdd, Nat.reduceLT, bne_self_eq_false, bT, eq_self, true_implies, false_implies, forall_const, if_true, if_false, Int.reduceToNat, Nat.reduceSub, Int.reduceLE, bV, Nat.reduceAdd, Nat.reduceLT, Nat.reduceLeDiff, Nat.reduceLeDiff, o1, o2, o3, o4, y1, y2, y3, y4, w1, w2, w3, l1, l2, l3, l4, m1, m2, m3, m4, s1, s2, s3, hbig]
  refine exec_loop (fun n e M => ∃ (i : Nat) (H' : AH) (L : List Lv) (g : Nat), i ≤ m.q.length ∧ n = m.q.length - i ∧ look e 1 = .la 1 0 0 0 ∧ look e 47 = q ∧ look e 48 = .i .i64 m.q.length ∧ look e 49 = .i .i64 i ∧ M = ⟨L, g, H'⟩ ∧ keepL [1, 47, 48, 49] L = [⟨1, 0, 0, [mV m.h q a b c]⟩] ∧ Ext H H' ∧ ∀ j (hj : j < m.q.length), j < i → qOk m.q[j] = true) ?_ (n := m.q.length) ⟨0, H, _, _, by omega, by omega, rfl, rfl, rfl, rfl, rfl, rfl, .refl _, fun j _ hj => by omega⟩
  rintro n e M ⟨i, H', L, g, hi, rfl, q1, q47, q48, q49, rfl, hL, he, hall⟩
  unfold mV at hL
  have hi64 : m.q.length ≤ 1048576 := by omega
  by_cases hlt : (i : Int) < m.q.length
  · have hil : i < m.q.length := by omega
    obtain ⟨b1, b2, b3, b4⟩ := Sx.at' (Sl.ext h.hq he) hil
    have hw := tot_mem' (w := w_Question) (List.getElem_mem hil)
    simp only [w_Question] at hw
    obtain ⟨v, H2, k1, rfl, e2⟩ := hN m.q[i].n H' (by omega)
    have x1 := hW m.q[i].t 0 65535 H2
    have x2 := hW m.q[i].c 0 65535 H2
    have w9 : IntKind.i64.wrap ((i : Int) + 1) = ((i + 1 : Nat) : Int) := by rw [w64 (by omega) (by omega)]; rfl
    simp only [show eQ.z = 3 from rfl, show eQ.v m.q[i] = AV.ag [.s m.q[i].n, .i .i64 m.q[i].t, .i .i64 m.q[i].c] from rfl] at b1 b3 b4
    have bad : qOk m.q[i] = false → msgOk m = false := fun hq => by rw [msgOk, all_fail hil hq]; simp
    cases c1 : (nameL m.q[i].n).isSome
    · rw [c1] at k1
      simp -implicitDefEqProofs only [bU, reduceIte, Nat.reduceEqDiff, reduceCtorEq, implies_true, forall_const, eq_self, Nat.reduceAdd, Nat.reduceLT, bne_self_eq_false, bT, eq_self, true_implies, false_implies, forall_const, if_true, if_false, Int.reduceToNat, Nat.reduceSub, Int.reduceLE, bV, Nat.reduceAdd, Nat.reduceLT, Nat.reduceLeDiff, Nat.reduceLeDiff, q1, q47, q48, q49, hL, o1, o2, o3, o4, y1, y2, y3, y4, l1, m1, hlt, b1, b2, b3, b4, toNat_nat, k1, endK, rsC, rsV, resV]
      exact ⟨by rw [bad (by simp only [qOk, c1, Bool.false_and])], he.trans e2⟩
    rw [c1] at k1
    cases c2 : decide (0 ≤ m.q[i].t ∧ m.q[i].t ≤ 65535)
    · rw [c2] at x1
      simp -implicitDefEqProofs only [bU, reduceIte, Nat.reduceEqDiff, reduceCtorEq, implies_true, forall_const, eq_self, Nat.reduceAdd, Nat.reduceLT, bne_self_eq_false, bT, eq_self, true_implies, false_implies, forall_const, if_true, if_false, Int.reduceToNat, Nat.reduceSub, Int.reduceLE, bV, Nat.reduceAdd, Nat.reduceLT, Nat.reduceLeDiff, Nat.reduceLeDiff, q1, q47, q48, q49, hL, o1, o2, o3, o4, y1, y2, y3, y4, l1, m1, hlt, b1, b2, b3, b4, toNat_nat, k1, x1, endK, rsC, rsV, resV]
      exact ⟨by rw [bad (by simp only [qOk, c2, Bool.false_and, Bool.and_false])], he.trans e2⟩
    rw [c2] at x1
    cases c3 : decide (0 ≤ m.q[i].c ∧ m.q[i].c ≤ 65535)
    · rw [c3] at x2
      simp -implicitDefEqProofs only [bU, reduceIte, Nat.reduceEqDiff, reduceCtorEq, implies_true, forall_const, eq_self, Nat.reduceAdd, Nat.reduceLT, bne_self_eq_false, bT, eq_self, true_implies, false_implies, forall_const, if_true, if_false, Int.reduceToNat, Nat.reduceSub, Int.reduceLE, bV, Nat.reduceAdd, Nat.reduceLT, Nat.reduceLeDiff, Nat.reduceLeDiff, q1, q47, q48, q49, hL, o1, o2, o3, o4, y1, y2, y3, y4, l1, m1, hlt, b1, b2, b3, b4, toNat_nat, k1, x1, x2, endK, rsC, rsV, resV]
      exact ⟨by rw [bad (by simp only [qOk, c3, Bool.and_false])], he.trans e2⟩
    rw [c3] at x2
    simp -implicitDefEqProofs only [bU, reduceIte, Nat.reduceEqDiff, reduceCtorEq, implies_true, forall_const, eq_self, Nat.reduceAdd, Nat.reduceLT, bne_self_eq_false, bT, eq_self, true_implies, false_implies, forall_const, if_true, if_false, Int.reduceToNat, Nat.reduceSub, Int.reduceLE, bV, Nat.reduceAdd, Nat.reduceLT, Nat.reduceLeDiff, Nat.reduceLeDiff, q1, q47, q48, q49, hL, o1, o2, o3, o4, y1, y2, y3, y4, l1, m1, hlt, b1, b2, b3, b4, toNat_nat, k1, x1, x2, w9]
    refine ⟨m.q.length - (i + 1), by omega, i + 1, H2, _, _, by omega, rfl, rfl, rfl, rfl, he.trans e2, fun j hj hji => ?_⟩
    by_cases hje : j = i
    · subst hje; simp only [qOk, c1, c2, c3, Bool.and_self]
    · exact hall j hj (by omega)
  · have hq : m.q.all qOk = true := all_done fun j hj => hall j hj (by omega)
    have hmo : msgOk m = (m.an.all recOkB && m.au.all recOkB && m.ex.all recOkB) := by rw [msgOk, hhd, hcnt, hq]; rfl
    simp -implicitDefEqProofs only [bU, reduceIte, Nat.reduceEqDiff, reduceCtorEq, implies_true, forall_const, eq_self, Nat.reduceAdd, Nat.reduceLT, bne_self_eq_false, bT, eq_self, true_implies, false_implies, forall_const, if_true, if_false, Int.reduceToNat, Nat.reduceSub, Int.reduceLE, bV, Nat.reduceAdd, Nat.reduceLT, Nat.reduceLeDiff, Nat.reduceLeDiff, q1, q47, q48, q49, hL, o1, o2, o3, o4, y1, y2, y3, y4, l1, m1, hlt, fillEC, fillE, List.replicate, List.set, lenV, lenC]
    clear hall q1 q47 q48 q49 hL
    obtain ⟨ls, hls⟩ : ∃ ls : Nat → List Rr, ls = fun j => if j = 0 then m.an else if j = 1 then m.au else m.ex := ⟨_, rfl⟩
    have hlsN : ∀ j, (ls j).length + tot' w_RR (ls j) ≤ 1048576 := fun j => by
      rw [hls]; simp only
      split
      · omega
      · split <;> omega
    refine exec_loop (fun n e M => ∃ (j : Nat) (H' : AH) (L : List Lv) (g g' : Nat), j ≤ 3 ∧ n = 3 - j ∧ look e 76 = .ll 76 g' 1 3 ∧ look e 77 = .i .i64 3 ∧ look e 78 = .i .i64 j ∧ M = ⟨L, g, H'⟩ ∧ Ext H H' ∧ keepL [76, 77, 78] L = [⟨76, g', 0, [a, b, c]⟩] ∧ ∀ i, i < j → (ls i).all recOkB = true) ?_ (n := 3)
      ⟨0, H', _, _, _, by omega, by omega, rfl, rfl, rfl, rfl, he, rfl, fun i hi => by omega⟩
    clear he hi hlt H'
    rintro n e M ⟨j, H', L, g, g', hj, rfl, q76, q77, q78, rfl, he, hL, hall⟩
    have w9 : IntKind.i64.wrap ((j : Int) + 1) = ((j + 1 : Nat) : Int) := by rw [w64 (by omega) (by omega)]; rfl
    have j0 : (0 : Int) ≤ j := by omega
    by_cases hj3 : (j : Int) < 3
    · have hjn : j < 3 := by omega
      have hia : iaC (j : Int) (.ll 76 g' 1 3) := ⟨j0, hj3⟩
      obtain ⟨ax, hax, hget⟩ : ∃ ax, (∀ H2, Ext H H2 → Sx H2 eR ax (ls j)) ∧ [a, b, c].getD j .u = ax := by
        obtain rfl | rfl | rfl : j = 0 ∨ j = 1 ∨ j = 2 := by omega
        · exact ⟨a, fun H2 h2 => by rw [hls]; exact Sl.ext h.ha h2, rfl⟩
        · exact ⟨b, fun H2 h2 => by rw [hls]; exact Sl.ext h.hb h2, rfl⟩
        · exact ⟨c, fun H2 h2 => by rw [hls]; exact Sl.ext h.hc h2, rfl⟩
      have bad : (ls j).all recOkB = false → msgOk m = false := fun hq => by
        rw [hmo]
        obtain rfl | rfl | rfl : j = 0 ∨ j = 1 ∨ j = 2 := by omega
        · rw [hls] at hq
          rw [show m.an.all recOkB = false from hq]; rfl
        · rw [hls] at hq
          rw [show m.au.all recOkB = false from hq]; simp
        · rw [hls] at hq
          rw [show m.ex.all recOkB = false from hq]; simp
      have hxN := hlsN j
      generalize hxs : ls j = xs at hax bad hxN
      have hax1 := hax H' he
      obtain ⟨m1', m2'⟩ := hax1.len
      have za := hax1.one
      simp -implicitDefEqProofs only [bU, reduceIte, Nat.reduceEqDiff, reduceCtorEq, implies_true, forall_const, eq_self, Nat.reduceAdd, Nat.reduceLT, bne_self_eq_false, bT, eq_self, true_implies, false_implies, forall_const, if_true, if_false, Int.reduceToNat, Nat.reduceSub, Int.reduceLE, bV, Nat.reduceAdd, Nat.reduceLT, Nat.reduceLeDiff, Nat.reduceLeDiff, q76, q77, q78, hj3, hL, slZ, hia, iaV, toNat_nat, hget, hjn, za, m1', m2']
      refine exec_loop (fun n e M => ∃ (i : Nat) (H' : AH) (L : List Lv) (g : Nat), i ≤ xs.length ∧ n = xs.length - i ∧ look e 76 = .ll 76 g' 1 3 ∧ look e 77 = .i .i64 3 ∧ look e 78 = .i .i64 j ∧ look e 82 = ax ∧ look e 83 = .i .i64 xs.length ∧ look e 84 = .i .i64 i ∧ M = ⟨L, g, H'⟩ ∧ Ext H H' ∧ keepL [76, 77, 78, 82, 83, 84] L = [⟨76, g', 0, [a, b, c]⟩] ∧ ∀ k (hk : k < xs.length), k < i → recOkB xs[k] = true) ?_ (n := xs.length)
        ⟨0, H', _, _, by omega, by omega, rfl, rfl, rfl, rfl, rfl, rfl, rfl, he, rfl, fun k _ hk => by omega⟩
      clear q76 q77 q78 hL he hax1 m1' m2' H'
      rintro n e M ⟨i, H', L, g, hi, rfl, q76, q77, q78, q82, q83, q84, rfl, he, hL, hrec⟩
      by_cases hlt : (i : Int) < xs.length
      · have hil : i < xs.length := by omega
        obtain ⟨b1, b2, b3, b4⟩ := Sx.at' (hax H' he) hil
        obtain ⟨l1', l2'⟩ := wRR_le (List.getElem_mem hil) hxN
        simp only [show eR.z = 5 from rfl, show eR.v xs[i] = AV.ag [.s xs[i].o, .i .i64 xs[i].t, .i .i64 xs[i].c, .i .i64 xs[i].ttl, .s xs[i].d] from rfl] at b1 b3 b4
        obtain ⟨v, H2, k1, rfl, e2⟩ := hR xs[i] H' (hF.ext he) (by omega) (by omega)
        simp only [show eR.v xs[i] = AV.ag [.s xs[i].o, .i .i64 xs[i].t, .i .i64 xs[i].c, .i .i64 xs[i].ttl, .s xs[i].d] from rfl] at k1
        have w8 : IntKind.i64.wrap ((i : Int) + 1) = ((i + 1 : Nat) : Int) := by
          rw [w64 (by omega) (by omega)]; rfl
        cases hb : recOkB xs[i]
        · rw [hb] at k1
          simp -implicitDefEqProofs only [bU, reduceIte, Nat.reduceEqDiff, reduceCtorEq, implies_true, forall_const, eq_self, Nat.reduceAdd, Nat.reduceLT, bne_self_eq_false, bT, eq_self, true_implies, false_implies, forall_const, if_true, if_false, Int.reduceToNat, Nat.reduceSub, Int.reduceLE, bV, Nat.reduceAdd, Nat.reduceLT, Nat.reduceLeDiff, Nat.reduceLeDiff, q76, q77, q78, q82, q83, q84, hlt, hL, b1, b2, b3, b4, toNat_nat, k1, endK, rsC, rsV, resV]
          exact ⟨by rw [bad (all_fail hil hb)], he.trans e2⟩
        · rw [hb] at k1
          simp -implicitDefEqProofs only [bU, reduceIte, Nat.reduceEqDiff, reduceCtorEq, implies_true, forall_const, eq_self, Nat.reduceAdd, Nat.reduceLT, bne_self_eq_false, bT, eq_self, true_implies, false_implies, forall_const, if_true, if_false, Int.reduceToNat, Nat.reduceSub, Int.reduceLE, bV, Nat.reduceAdd, Nat.reduceLT, Nat.reduceLeDiff, Nat.reduceLeDiff, q76, q77, q78, q82, q83, q84, hlt, hL, b1, b2, b3, b4, toNat_nat, k1, w8]
          refine ⟨xs.length - (i + 1), by omega, i + 1, H2, _, _, by omega, rfl, rfl, rfl, he.trans e2, rfl, fun k hk hki => ?_⟩
          by_cases hke : k = i
          · subst hke; exact hb
          · exact hrec k hk (by omega)
      · simp -implicitDefEqProofs only [bU, reduceIte, Nat.reduceEqDiff, reduceCtorEq, implies_true, forall_const, eq_self, Nat.reduceAdd, Nat.reduceLT, bne_self_eq_false, bT, eq_self, true_implies, false_implies, forall_const, if_true, if_false, Int.reduceToNat, Nat.reduceSub, Int.reduceLE, bV, Nat.reduceAdd, Nat.reduceLT, Nat.reduceLeDiff, Nat.reduceLeDiff, q76, q77, q78, q82, q83, q84, hlt, hL, w9]
        refine ⟨3 - (j + 1), by omega, j + 1, H', _, _, g', by omega, rfl, rfl, rfl, rfl, he, rfl, fun i' hi' => ?_⟩
        by_cases hie : i' = j
        · rw [hie, hxs]; exact all_done fun k hk => hrec k hk (by omega)
        · exact hall i' (by omega)
    · have r1 := hall 0 (by omega)
      have r2 := hall 1 (by omega)
      have r3 := hall 2 (by omega)
      rw [hls] at r1 r2 r3
      have hfin : msgOk m = true := by
        rw [hmo, show m.an.all recOkB = true from r1, show m.au.all recOkB = true from r2, show m.ex.all recOkB = true from r3]; rfl
      simp -implicitDefEqProofs only [bU, reduceIte, Nat.reduceEqDiff, reduceCtorEq, implies_true, forall_const, eq_self, Nat.reduceAdd, Nat.reduceLT, bne_self_eq_false, bT, eq_self, true_implies, false_implies, forall_const, if_true, if_false, Int.reduceToNat, Nat.reduceSub, Int.reduceLE, bV, Nat.reduceAdd, Nat.reduceLT, Nat.reduceLeDiff, Nat.reduceLeDiff, q76, q77, q78, hj3, hL, endK, rsC, rsV, resV]
      exact ⟨by rw [hfin], he⟩
end
end Go.Vm

/- Functions' code as literals of the abstract machine, printed by wip/tools/lits.py; the kernel checks each against the translation. -/
namespace Go.Vm
set_option linter.unusedVariables false
set_option linter.unusedSimpArgs false
/-- loop.example/s01858/spec.l04Write -/
def c_spec_l04Write : Fn := ⟨1, [(.t 2)],
    .q (.o [.lbx 1 (.t 0),
      .mv 2 (.c .ns)])
    (.q (.o [.bd 9 [.ns, .ns] [],
      .al 3 2 [(.ag [.ns, .ns])],
      .st (.t 3) (.t 9) 2])
    (.q (.o [.fa 10 (.t 1) 11,
      .ld 11 (.t 10) none,
      .ln 12 (.t 11),
      .fa 13 (.t 1) 12,
      .ld 14 (.t 13) none,
      .ln 15 (.t 14),
      .fa 16 (.t 1) 13,
      .ld 17 (.t 16) none,
      .ln 18 (.t 17),
      .fa 19 (.t 1) 14,
      .ld 20 (.t 19) none,
      .ln 21 (.t 20),
      .bd 22 [(.i .i64 0), (.i .i64 0), (.i .i64 0), (.i .i64 0)] [(0, 1, (.t 12)), (1, 1, (.t 15)), (2, 1, (.t 18)), (3, 1, (.t 21))],
      .lal 4 (.ag [(.i .i64 0), (.i .i64 0), (.i .i64 0), (.i .i64 0)]),
      .st (.t 4) (.t 22) 4])
    (.q (.o [.fa 23 (.t 1) 0,
      .ld 24 (.t 23) (some 11),
      .ld 25 (.t 4) (some 4),
      .cl (some 26) 102 [(.t 24), (.t 25)],
      .cl (some 27) 101 [(.t 3), (.t 26)]])
    (.q (.q (.o [.mv 5 (.c (.i .i64 0))])
    (.b 0 (.l [1, 3, 5] (.q (.q (.o [.mv 28 (.t 5),
      .fa 29 (.t 1) 11,
      .ld 30 (.t 29) none,
      .ln 31 (.t 30),
      .bn 32 .lss (.t 28) (.t 31)])
    (.i (.t 32) (.k)
    (.x 0)))
    (.q (.b 1 (.o [.fa 35 (.t 1) 11,
      .ld 36 (.t 35) none,
      .mv 37 (.t 5),
      .ia 38 (.t 36) (.t 37) 3,
      .ld 39 (.t 38) (some 3),
      .cl (some 40) 103 [(.t 3), (.t 39)]]))
    (.o [.mv 33 (.t 5),
      .bn 34 .add (.t 33) (.c (.i .i64 1)),
      .mv 5 (.t 34)]))))))
    (.q (.q (.o [.mv 6 (.c (.i .i64 0))])
    (.b 2 (.l [1, 3, 6] (.q (.q (.o [.mv 41 (.t 6),
      .bn 42 .lss (.t 41) (.c (.i .i64 3))])
    (.i (.t 42) (.k)
    (.x 2)))
    (.q (.b 3 (.q (.o [.fa 45 (.t 1) 12,
      .ld 46 (.t 45) none,
      .mv 7 (.t 46)])
    (.q (.q (.o [.mv 47 (.t 6),
      .bn 48 .eql (.t 47) (.c (.i .i64 1))])
    (.i (.t 48) (.o [.fa 49 (.t 1) 13,
      .ld 50 (.t 49) none,
      .mv 7 (.t 50)])
    (.q (.o [.mv 51 (.t 6),
      .bn 52 .eql (.t 51) (.c (.i .i64 2))])
    (.i (.t 52) (.o [.fa 53 (.t 1) 14,
      .ld 54 (.t 53) none,
      .mv 7 (.t 54)])
    (.k)))))
    (.q (.o [.mv 8 (.c (.i .i64 0))])
    (.b 4 (.l [1, 3, 6, 7, 8] (.q (.q (.o [.mv 55 (.t 8),
      .mv 56 (.t 7),
      .ln 57 (.t 56),
      .bn 58 .lss (.t 55) (.t 57)])
    (.i (.t 58) (.k)
    (.x 4)))
    (.q (.b 5 (.o [.mv 61 (.t 7),
      .mv 62 (.t 8),
      .ia 63 (.t 61) (.t 62) 5,
      .ld 64 (.t 63) (some 5),
      .cl (some 65) 104 [(.t 3), (.t 64)]]))
    (.o [.mv 59 (.t 8),
      .bn 60 .add (.t 59) (.c (.i .i64 1)),
      .mv 8 (.t 60)])))))))))
    (.o [.mv 43 (.t 6),
      .bn 44 .add (.t 43) (.c (.i .i64 1)),
      .mv 6 (.t 44)]))))))
    (.q (.o [.fa 66 (.t 3) 0,
      .ld 67 (.t 66) none,
      .mv 2 (.t 67)])
    (.r)))))))⟩
abbrev n_spec_l04Write : Nat := 75
theorem k_spec_l04Write : chkF Go.Proofs.Tryd.prog c_spec_l04Write 75 = true := by kernel_rfl
/-- loop.example/s01858/spec.l04Text -/
def c_spec_l04Text : Fn := ⟨2, [],
    .q (.o [.mv 4 (.c (.i .i64 0))])
    (.b 0 (.l [0, 1, 4] (.q (.q (.o [.mv 5 (.t 4),
      .mv 6 (.t 1),
      .lns 7 (.t 6),
      .bn 8 .lss (.t 5) (.t 7)])
    (.i (.t 8) (.k)
    (.x 0)))
    (.q (.b 1 (.p [⟨.mv 11 (.t 0), [], false⟩,
      ⟨.mv 12 (.t 0), [], false⟩,
      ⟨.nc 13 (.t 12), [], false⟩,
      ⟨.fa 14 (.t 13) 0, [], false⟩,
      ⟨.ld 15 (.t 14) none, [], true⟩,
      ⟨.mv 16 (.t 1), [], false⟩,
      ⟨.mv 17 (.t 4), [], false⟩,
      ⟨.ix 18 (.t 16) (.t 17), [], false⟩,
      ⟨.lbs 19 (.i .u8 0) 1 1 [(0, (.t 18))], [4], false⟩,
      ⟨.ap 20 (.t 15) (.t 19) 1 1, [], false⟩,
      ⟨.nc 21 (.t 11), [], false⟩,
      ⟨.fa 22 (.t 21) 0, [], false⟩,
      ⟨.st (.t 22) (.t 20) 1, [], false⟩]))
    (.o [.mv 9 (.t 4),
      .bn 10 .add (.t 9) (.c (.i .i64 1)),
      .mv 4 (.t 10)])))))⟩
abbrev n_spec_l04Text : Nat := 101
theorem k_spec_l04Text : chkF Go.Proofs.Tryd.prog c_spec_l04Text 101 = true := by kernel_rfl
/-- loop.example/s01858/spec.l04Head -/
def c_spec_l04Head : Fn := ⟨2, [(.t 4)],
    .q (.o [.lbx 2 (.t 0),
      .lbx 3 (.t 1),
      .mv 4 (.c (.s []))])
    (.q (.p [⟨.fa 8 (.t 2) 1, [], false⟩,
      ⟨.ld 9 (.t 8) none, [], false⟩,
      ⟨.cl (some 10) 123 [(.t 9), (.c (.i .i64 15))], [], true⟩,
      ⟨.fa 11 (.t 2) 2, [], false⟩,
      ⟨.ld 12 (.t 11) none, [2], true⟩,
      ⟨.bn 13 .shl (.t 12) (.c (.i .u64 11)), [], false⟩,
      ⟨.bn 14 .add (.t 10) (.t 13), [], false⟩,
      ⟨.fa 15 (.t 2) 3, [], false⟩,
      ⟨.ld 16 (.t 15) none, [2], false⟩,
      ⟨.cl (some 17) 123 [(.t 16), (.c (.i .i64 10))], [4], true⟩,
      ⟨.bn 18 .add (.t 14) (.t 17), [], false⟩,
      ⟨.fa 19 (.t 2) 4, [], false⟩,
      ⟨.ld 20 (.t 19) none, [2, 9], false⟩,
      ⟨.cl (some 21) 123 [(.t 20), (.c (.i .i64 9))], [4], true⟩,
      ⟨.bn 22 .add (.t 18) (.t 21), [], false⟩,
      ⟨.fa 23 (.t 2) 5, [], false⟩,
      ⟨.ld 24 (.t 23) none, [2, 9, 13], false⟩,
      ⟨.cl (some 25) 123 [(.t 24), (.c (.i .i64 8))], [4], true⟩,
      ⟨.bn 26 .add (.t 22) (.t 25), [], false⟩,
      ⟨.fa 27 (.t 2) 6, [], false⟩,
      ⟨.ld 28 (.t 27) none, [2, 9, 13, 17], false⟩,
      ⟨.cl (some 29) 123 [(.t 28), (.c (.i .i64 7))], [4], true⟩,
      ⟨.bn 30 .add (.t 26) (.t 29), [], false⟩,
      ⟨.fa 31 (.t 2) 7, [], false⟩,
      ⟨.ld 32 (.t 31) none, [2, 9, 13, 17, 21], false⟩,
      ⟨.cl (some 33) 123 [(.t 32), (.c (.i .i64 6))], [4], true⟩,
      ⟨.bn 34 .add (.t 30) (.t 33), [], false⟩,
      ⟨.fa 35 (.t 2) 8, [], false⟩,
      ⟨.ld 36 (.t 35) none, [2, 9, 13, 17, 21, 25], false⟩,
      ⟨.cl (some 37) 123 [(.t 36), (.c (.i .i64 5))], [4], true⟩,
      ⟨.bn 38 .add (.t 34) (.t 37), [], false⟩,
      ⟨.fa 39 (.t 2) 9, [], false⟩,
      ⟨.ld 40 (.t 39) none, [2, 9, 13, 17, 21, 25, 29], false⟩,
      ⟨.cl (some 41) 123 [(.t 40), (.c (.i .i64 4))], [4], true⟩,
      ⟨.bn 42 .add (.t 38) (.t 41), [], false⟩,
      ⟨.fa 43 (.t 2) 10, [], false⟩,
      ⟨.ld 44 (.t 43) none, [2, 9, 13, 17, 21, 25, 29, 33], false⟩,
      ⟨.bn 45 .add (.t 42) (.t 44), [], false⟩,
      ⟨.mv 5 (.t 45), [], false⟩])
    (.q (.o [.fa 46 (.t 2) 0,
      .ld 47 (.t 46) none,
      .cl (some 48) 27 [(.t 47), (.c (.i .i64 2))],
      .mv 49 (.t 5),
      .cl (some 50) 27 [(.t 49), (.c (.i .i64 2))],
      .bn 51 .add (.t 48) (.t 50),
      .mv 6 (.t 51)])
    (.q (.q (.o [.mv 7 (.c (.i .i64 0))])
    (.b 0 (.l [3, 6, 7] (.q (.q (.o [.mv 52 (.t 7),
      .bn 53 .lss (.t 52) (.c (.i .i64 4))])
    (.i (.t 53) (.k)
    (.x 0)))
    (.q (.b 1 (.o [.mv 56 (.t 6),
      .mv 57 (.t 7),
      .iaa 58 (.t 3) (.t 57) 4 1,
      .ld 59 (.t 58) none,
      .cl (some 60) 27 [(.t 59), (.c (.i .i64 2))],
      .bn 61 .add (.t 56) (.t 60),
      .mv 6 (.t 61)]))
    (.o [.mv 54 (.t 7),
      .bn 55 .add (.t 54) (.c (.i .i64 1)),
      .mv 7 (.t 55)]))))))
    (.q (.o [.mv 62 (.t 6),
      .mv 4 (.t 62)])
    (.r)))))⟩
abbrev n_spec_l04Head : Nat := 102
theorem k_spec_l04Head : chkF Go.Proofs.Tryd.prog c_spec_l04Head 102 = true := by kernel_rfl
/-- loop.example/s01858/spec.l04Question -/
def c_spec_l04Question : Fn := ⟨2, [],
    .q (.o [.lbx 3 (.t 1)])
    (.q (.o [.mv 4 (.t 0),
      .fa 5 (.t 3) 0,
      .ld 6 (.t 5) none,
      .cl (some 7) 124 [(.t 4), (.t 6)]])
    (.p [⟨.mv 8 (.t 0), [], false⟩,
      ⟨.fa 9 (.t 3) 1, [], false⟩,
      ⟨.ld 10 (.t 9) none, [], false⟩,
      ⟨.cl (some 11) 27 [(.t 10), (.c (.i .i64 2))], [], true⟩,
      ⟨.fa 12 (.t 3) 2, [], false⟩,
      ⟨.ld 13 (.t 12) none, [3], false⟩,
      ⟨.cl (some 14) 27 [(.t 13), (.c (.i .i64 2))], [], false⟩,
      ⟨.bn 15 .add (.t 11) (.t 14), [], false⟩,
      ⟨.cl (some 16) 101 [(.t 8), (.t 15)], [], false⟩]))⟩
abbrev n_spec_l04Question : Nat := 103
theorem k_spec_l04Question : chkF Go.Proofs.Tryd.prog c_spec_l04Question 103 = true := by kernel_rfl
/-- loop.example/s01858/spec.l04WriteRecord -/
def c_spec_l04WriteRecord : Fn := ⟨2, [],
    .q (.o [.lbx 3 (.t 1)])
    (.q (.o [.mv 10 (.t 0),
      .fa 11 (.t 3) 0,
      .ld 12 (.t 11) none,
      .cl (some 13) 124 [(.t 10), (.t 12)]])
    (.q (.p [⟨.mv 14 (.t 0), [], false⟩,
      ⟨.fa 15 (.t 3) 1, [], false⟩,
      ⟨.ld 16 (.t 15) none, [], false⟩,
      ⟨.cl (some 17) 27 [(.t 16), (.c (.i .i64 2))], [], true⟩,
      ⟨.fa 18 (.t 3) 2, [], false⟩,
      ⟨.ld 19 (.t 18) none, [3], false⟩,
      ⟨.cl (some 20) 27 [(.t 19), (.c (.i .i64 2))], [], true⟩,
      ⟨.bn 21 .add (.t 17) (.t 20), [], false⟩,
      ⟨.fa 22 (.t 3) 3, [], false⟩,
      ⟨.ld 23 (.t 22) none, [3, 6], false⟩,
      ⟨.cl (some 24) 27 [(.t 23), (.c (.i .i64 4))], [], false⟩,
      ⟨.bn 25 .add (.t 21) (.t 24), [], false⟩,
      ⟨.bn 26 .add (.t 25) (.c (.s [0, 0])), [], false⟩,
      ⟨.cl (some 27) 101 [(.t 14), (.t 26)], [], false⟩])
    (.q (.o [.mv 28 (.t 0),
      .nc 29 (.t 28),
      .fa 30 (.t 29) 0,
      .ld 31 (.t 30) none,
      .ln 32 (.t 31),
      .mv 4 (.t 32)])
    (.q (.q (.o [.fa 33 (.t 3) 4,
      .ld 34 (.t 33) none,
      .bn 35 .eql (.t 34) (.c (.s [])),
      .mv 36 (.t 35),
      .gd 36 false (.fa 37 (.t 3) 1),
      .gd 36 false (.ld 38 (.t 37) none),
      .gd 36 false (.cl (some 39) 125 [(.t 38)]),
      .gd 36 false (.un 40 .not (.t 39)),
      .pk 41 (.t 36) (.c (.b true)) (.t 40)])
    (.i (.t 41) (.o [.mv 42 (.t 0),
      .fa 43 (.t 3) 4,
      .ld 44 (.t 43) none,
      .cl (some 45) 101 [(.t 42), (.t 44)]])
    (.q (.o [.fa 46 (.t 3) 1,
      .ld 47 (.t 46) none,
      .cl (some 48) 126 [(.t 47)],
      .mv 5 (.t 48)])
    (.q (.o [.mv 50 (.t 5),
      .fa 51 (.t 3) 4,
      .ld 52 (.t 51) none,
      .cl (some 53) 127 [(.t 50), (.t 52)],
      .mv 49 (.t 53),
      .ex 54 (.t 49) 0,
      .ex 55 (.t 49) 1,
      .mv 6 (.t 54),
      .mv 7 (.t 55)])
    (.q (.o [.mv 8 (.c (.i .i64 0))])
    (.b 0 (.l [0, 4, 5, 6, 8] (.q (.q (.o [.mv 56 (.t 8),
      .mv 57 (.t 6),
      .ln 58 (.t 57),
      .bn 59 .lss (.t 56) (.t 58)])
    (.i (.t 59) (.k)
    (.x 0)))
    (.q (.b 1 (.q (.o [.mv 62 (.t 5),
      .mv 63 (.t 8),
      .ix 64 (.t 62) (.t 63),
      .bn 65 .eql (.t 64) (.c (.i .u8 110))])
    (.i (.t 65) (.o [.mv 66 (.t 0),
      .mv 67 (.t 6),
      .mv 68 (.t 8),
      .ia 69 (.t 67) (.t 68) 1,
      .ld 70 (.t 69) none,
      .cl (some 71) 124 [(.t 66), (.t 70)]])
    (.o [.mv 72 (.t 0),
      .mv 73 (.t 6),
      .mv 74 (.t 8),
      .ia 75 (.t 73) (.t 74) 1,
      .ld 76 (.t 75) none,
      .cl (some 77) 101 [(.t 72), (.t 76)]]))))
    (.o [.mv 60 (.t 8),
      .bn 61 .add (.t 60) (.c (.i .i64 1)),
      .mv 8 (.t 61)]))))))))))
    (.q (.o [.mv 78 (.t 0),
      .nc 79 (.t 78),
      .fa 80 (.t 79) 0,
      .ld 81 (.t 80) none,
      .ln 82 (.t 81),
      .mv 83 (.t 4),
      .bn 84 .sub (.t 82) (.t 83),
      .mv 9 (.t 84)])
    (.q (.o [.mv 85 (.t 0),
      .nc 86 (.t 85),
      .fa 87 (.t 86) 0,
      .ld 88 (.t 87) none,
      .mv 89 (.t 4),
      .bn 90 .sub (.t 89) (.c (.i .i64 2)),
      .mv 91 (.t 9),
      .bn 92 .shr (.t 91) (.c (.i .u64 8)),
      .ci 93 .u8 (.t 92),
      .ia 94 (.t 88) (.t 90) 1,
      .st (.t 94) (.t 93) 1])
    (.o [.mv 95 (.t 0),
      .nc 96 (.t 95),
      .fa 97 (.t 96) 0,
      .ld 98 (.t 97) none,
      .mv 99 (.t 4),
      .bn 100 .sub (.t 99) (.c (.i .i64 1)),
      .mv 101 (.t 9),
      .ci 102 .u8 (.t 101),
      .ia 103 (.t 98) (.t 100) 1,
      .st (.t 103) (.t 102) 1])))))))⟩
abbrev n_spec_l04WriteRecord : Nat := 104
theorem k_spec_l04WriteRecord : chkF Go.Proofs.Tryd.prog c_spec_l04WriteRecord 104 = true := by kernel_rfl
/-- loop.example/s01858/spec.l04Flag -/
def c_spec_l04Flag : Fn := ⟨2, [(.t 4)],
    .q (.o [.mv 4 (.c (.i .i64 0))])
    (.q (.q (.o [.mv 5 (.t 0)])
    (.i (.t 5) (.q (.o [.mv 6 (.t 1),
      .ci 7 .u64 (.t 6),
      .bn 8 .shl (.c (.i .i64 1)) (.t 7),
      .mv 4 (.t 8)])
    (.r))
    (.k)))
    (.q (.o [.mv 4 (.c (.i .i64 0))])
    (.r)))⟩
abbrev n_spec_l04Flag : Nat := 123
theorem k_spec_l04Flag : chkF Go.Proofs.Tryd.prog c_spec_l04Flag 123 = true := by kernel_rfl
/-- loop.example/s01858/spec.l04Name -/
def c_spec_l04Name : Fn := ⟨2, [],
    .q (.b 0 (.l [0, 1] (.q (.q (.o [.mv 6 (.t 1),
      .bn 7 .neq (.t 6) (.c (.s [0]))])
    (.i (.t 7) (.k)
    (.x 0)))
    (.b 1 (.q (.o [.mv 8 (.t 0),
      .mv 9 (.t 1),
      .cl (some 10) 139 [(.t 8), (.t 9)],
      .mv 4 (.t 10)])
    (.q (.q (.o [.mv 11 (.t 4),
      .bn 12 .geq (.t 11) (.c (.i .i64 0))])
    (.i (.t 12) (.q (.o [.mv 13 (.t 0),
      .mv 14 (.t 4),
      .bn 15 .add (.c (.i .i64 49152)) (.t 14),
      .cl (some 16) 27 [(.t 15), (.c (.i .i64 2))],
      .cl (some 17) 101 [(.t 13), (.t 16)]])
    (.r))
    (.k)))
    (.q (.q (.o [.mv 18 (.t 0),
      .nc 19 (.t 18),
      .fa 20 (.t 19) 0,
      .ld 21 (.t 20) none,
      .ln 22 (.t 21),
      .bn 23 .leq (.t 22) (.c (.i .i64 16383))])
    (.i (.t 23) (.p [⟨.mv 24 (.t 0), [], false⟩,
      ⟨.mv 25 (.t 0), [], false⟩,
      ⟨.nc 26 (.t 25), [], false⟩,
      ⟨.fa 27 (.t 26) 1, [], false⟩,
      ⟨.ld 28 (.t 27) none, [], true⟩,
      ⟨.mv 29 (.t 1), [], false⟩,
      ⟨.mv 30 (.t 0), [], false⟩,
      ⟨.nc 31 (.t 30), [], false⟩,
      ⟨.fa 32 (.t 31) 0, [], false⟩,
      ⟨.ld 33 (.t 32) none, [], false⟩,
      ⟨.ln 34 (.t 33), [], false⟩,
      ⟨.bd 35 [(.s []), (.i .i64 0)] [(0, 1, (.t 29)), (1, 1, (.t 34))], [], false⟩,
      ⟨.lbs 36 (.ag [(.s []), (.i .i64 0)]) 2 1 [(0, (.t 35))], [4], false⟩,
      ⟨.ap 37 (.t 28) (.t 36) 2 24, [], false⟩,
      ⟨.nc 38 (.t 24), [], false⟩,
      ⟨.fa 39 (.t 38) 1, [], false⟩,
      ⟨.st (.t 39) (.t 37) 1, [], false⟩])
    (.k)))
    (.q (.o [.mv 40 (.t 1),
      .ix 41 (.t 40) (.c (.i .i64 0)),
      .ci 42 .i64 (.t 41),
      .bn 43 .add (.t 42) (.c (.i .i64 1)),
      .mv 5 (.t 43)])
    (.q (.o [.mv 44 (.t 0),
      .mv 45 (.t 1),
      .mv 46 (.t 5),
      .ss 47 (.t 45) none (some (.t 46)),
      .cl (some 48) 101 [(.t 44), (.t 47)]])
    (.o [.mv 49 (.t 1),
      .mv 50 (.t 5),
      .ss 51 (.t 49) (some (.t 50)) none,
      .mv 1 (.t 51)]))))))))))
    (.o [.mv 52 (.t 0),
      .mv 53 (.t 1),
      .cl (some 54) 101 [(.t 52), (.t 53)]])⟩
abbrev n_spec_l04Name : Nat := 124
theorem k_spec_l04Name : chkF Go.Proofs.Tryd.prog c_spec_l04Name 124 = true := by kernel_rfl
/-- loop.example/s01858/spec.l04Pointed -/
def c_spec_l04Pointed : Fn := ⟨1, [(.t 2)],
    .q (.o [.mv 2 (.c (.b false))])
    (.q (.q (.o [.mv 3 (.t 0)])
    (.b 0 (.q (.q (.o [.bn 5 .eql (.t 3) (.c (.i .i64 2)),
      .mv 4 (.t 5)])
    (.i (.t 4) (.k)
    (.q (.o [.bn 6 .eql (.t 3) (.c (.i .i64 5)),
      .mv 4 (.t 6)])
    (.i (.t 4) (.k)
    (.q (.o [.bn 7 .eql (.t 3) (.c (.i .i64 6)),
      .mv 4 (.t 7)])
    (.i (.t 4) (.k)
    (.q (.o [.bn 8 .eql (.t 3) (.c (.i .i64 12)),
      .mv 4 (.t 8)])
    (.i (.t 4) (.k)
    (.o [.bn 9 .eql (.t 3) (.c (.i .i64 15)),
      .mv 4 (.t 9)])))))))))
    (.i (.t 4) (.q (.o [.mv 2 (.c (.b true))])
    (.r))
    (.k)))))
    (.q (.o [.mv 2 (.c (.b false))])
    (.r)))⟩
abbrev n_spec_l04Pointed : Nat := 125
theorem k_spec_l04Pointed : chkF Go.Proofs.Tryd.prog c_spec_l04Pointed 125 = true := by kernel_rfl
/-- loop.example/s01858/spec.l04Seen -/
def c_spec_l04Seen : Fn := ⟨2, [(.t 4)],
    .q (.o [.mv 4 (.c (.i .i64 0))])
    (.q (.q (.o [.mv 5 (.c (.i .i64 0))])
    (.b 0 (.l [0, 1, 5] (.q (.q (.o [.mv 6 (.t 5),
      .mv 7 (.t 0),
      .nc 8 (.t 7),
      .fa 9 (.t 8) 1,
      .ld 10 (.t 9) none,
      .ln 11 (.t 10),
      .bn 12 .lss (.t 6) (.t 11)])
    (.i (.t 12) (.k)
    (.x 0)))
    (.q (.b 1 (.q (.o [.mv 15 (.t 0),
      .nc 16 (.t 15),
      .fa 17 (.t 16) 1,
      .ld 18 (.t 17) none,
      .mv 19 (.t 5),
      .ia 20 (.t 18) (.t 19) 2,
      .fa 21 (.t 20) 0,
      .ld 22 (.t 21) none,
      .mv 23 (.t 1),
      .bn 24 .eql (.t 22) (.t 23)])
    (.i (.t 24) (.q (.o [.mv 25 (.t 0),
      .nc 26 (.t 25),
      .fa 27 (.t 26) 1,
      .ld 28 (.t 27) none,
      .mv 29 (.t 5),
      .ia 30 (.t 28) (.t 29) 2,
      .fa 31 (.t 30) 1,
      .ld 32 (.t 31) none,
      .mv 4 (.t 32)])
    (.r))
    (.k))))
    (.o [.mv 13 (.t 5),
      .bn 14 .add (.t 13) (.c (.i .i64 1)),
      .mv 5 (.t 14)]))))))
    (.q (.o [.mv 4 (.c (.i .i64 (-1)))])
    (.r)))⟩
abbrev n_spec_l04Seen : Nat := 139
theorem k_spec_l04Seen : chkF Go.Proofs.Tryd.prog c_spec_l04Seen 139 = true := by kernel_rfl
end Go.Vm

/- The specification's writer of messages: its state; texts and names written. -/
namespace Go.Vm
set_option linter.unusedVariables false
set_option linter.unusedSimpArgs false
/-! What is written, plainly. -/
def fnd (es : List (List UInt8 × Nat)) (n : List UInt8) : Option Nat := match es with
  | [] => none
  | e :: r => if e.1 = n then some e.2 else fnd r n
def wrName (s : EncSt) (n : List UInt8) : EncSt := match n with
  | [] => s
  | c :: r => if c = 0 then (s.1 ++ [0], s.2) else match fnd s.2 (c :: r) with
    | some p => (s.1 ++ be16 (49152 + p), s.2)
    | none => wrName (s.1 ++ c :: r.take c.toNat, if s.1.length ≤ 16383 then s.2 ++ [(c :: r, s.1.length)] else s.2) (r.drop c.toNat)
termination_by n.length
decreasing_by simp; omega
/-- Places are near. -/
def nearS (s : EncSt) : Prop := ∀ e, e ∈ s.2 → e.2 ≤ 16383
theorem fnd_mem {n : List UInt8} {p : Nat} : ∀ {es : List (List UInt8 × Nat)}, fnd es n = some p → ∃ e, e ∈ es ∧ e.2 = p
  | [], h => by cases h
  | e :: r, h => by
    simp only [fnd] at h
    by_cases he : e.1 = n
    · rw [if_pos he] at h; injection h with h; exact ⟨e, by simp, h⟩
    · rw [if_neg he] at h
      obtain ⟨x, h1, h2⟩ := fnd_mem h
      exact ⟨x, by simp [h1], h2⟩
theorem wrName_near : ∀ (k : Nat) (n : List UInt8) (s : EncSt), n.length ≤ k → nearS s → nearS (wrName s n) ∧ s.1.length ≤ (wrName s n).1.length ∧ (wrName s n).1.length ≤ s.1.length + n.length + 1
  | k, [], s, _, h => by rw [wrName]; exact ⟨h, Nat.le_refl _, by simp⟩
  | 0, _ :: _, _, hk, _ => by simp at hk
  | k + 1, c :: r, s, hk, h => by
    rw [wrName]
    by_cases h0 : c = 0
    · rw [if_pos h0]; exact ⟨h, by simp, by simp⟩
    · rw [if_neg h0]
      cases hf : fnd s.2 (c :: r) with
      | some p => exact ⟨h, by simp, by simp [be16]⟩
      | none =>
        simp only
        have hn : nearS (s.1 ++ c :: r.take c.toNat, if s.1.length ≤ 16383 then s.2 ++ [(c :: r, s.1.length)] else s.2) := by
          intro e he
          simp only at he
          by_cases hs : s.1.length ≤ 16383
          · rw [if_pos hs, List.mem_append, List.mem_singleton] at he
            rcases he with he | rfl
            · exact h e he
            · exact hs
          · rw [if_neg hs] at he; exact h e he
        simp only [List.length_cons] at hk ⊢
        obtain ⟨a, b, d⟩ := wrName_near k (r.drop c.toNat) _ (by simp; omega) hn
        have h1 : c.toNat ≠ 0 := fun e => h0 (UInt8.toNat_inj.1 e)
        simp only [List.length_append, List.length_cons, List.length_take, List.length_drop] at b d
        exact ⟨a, by omega, by omega⟩
def wrTxt (s : EncSt) (t : List UInt8) : EncSt := (s.1 ++ t, s.2)
def eP : Enc (List UInt8 × Nat) := ⟨2, fun p => [.s p.1, .i .i64 (p.2 : Nat)], fun _ => rfl⟩
structure WS (H : AH) (n0 pid : Nat) (s : EncSt) : Prop where
  ex : ∃ bv pl, Obj1 H pid [bv, pl] ∧ Mb H bv s.1 ∧ Mx H eP pl s.2 ∧ ¬ pid ∈ idA bv ∧ ¬ pid ∈ idA pl ∧ Dj bv pl ∧ (∀ i, i ∈ idA bv → n0 ≤ i) ∧ ∀ i, i ∈ idA pl → n0 ≤ i
  ge : n0 ≤ pid
theorem WS.ext {H H' : AH} {n0 pid : Nat} {s : EncSt} (h : WS H n0 pid s) (he : Ext H H') : WS H' n0 pid s := by
  obtain ⟨⟨bv, pl, h1, h2, h3, h4⟩, h6⟩ := h
  exact ⟨⟨bv, pl, h1.ext he, Mn.ext h2 he, Mn.ext h3 he, h4⟩, h6⟩
theorem WS.lt {H : AH} {n0 pid : Nat} {s : EncSt} (h : WS H n0 pid s) : pid < H.n ∧ n0 ≤ H.n := by
  obtain ⟨⟨bv, pl, h1, -⟩, h6⟩ := h
  exact ⟨h1.lt, Nat.le_trans h6 (Nat.le_of_lt h1.lt)⟩
/-! What a writer may change: its object and what that leads to. -/
def idsA : AV → List Nat
  | .sl id _ _ => [id]
  | .mp id => [id]
  | _ => []
theorem idA_ids {a : AV} {i : Nat} (h : i ∈ idA a) : i ∈ idsA a := by cases a <;> first | exact h | cases h
theorem Mn.ids {H : AH} {z : Nat} {a : AV} {els : List AV} (h : Mn H z a els) : idsA a = idA a := by cases h <;> rfl
theorem Sl.ids {H : AH} {z : Nat} {a : AV} {els : List AV} (h : Sl H z a els) : idsA a = idA a := by cases h <;> rfl
def Fp (H : AH) (pid i : Nat) : Prop := i = pid ∨ ∃ cs, Obj1 H pid cs ∧ ∃ a, a ∈ cs ∧ i ∈ idsA a
structure Wk (pid : Nat) (H H' : AH) : Prop where
  n : H.n ≤ H'.n
  at' : ∀ i, i < H.n → ¬ Fp H pid i → H'.at' i = H.at' i
  fp : ∀ i, Fp H' pid i → Fp H pid i ∨ H.n ≤ i
theorem Wk.refl (pid : Nat) (H : AH) : Wk pid H H := ⟨Nat.le_refl _, fun _ _ _ => rfl, fun _ h => .inl h⟩
theorem Wk.trans {pid : Nat} {H H1 H2 : AH} (h : Wk pid H H1) (h' : Wk pid H1 H2) : Wk pid H H2 :=
  ⟨Nat.le_trans h.n h'.n, fun i hi hf => (h'.at' i (Nat.lt_of_lt_of_le hi h.n) fun hh => (h.fp i hh).elim hf fun _ => by omega).trans (h.at' i hi hf),
   fun i hi => (h'.fp i hi).elim (h.fp i) fun hh => .inr (Nat.le_trans h.n hh)⟩
theorem Obj1.same {H : AH} {pid : Nat} {cs cs' : List AV} (h : Obj1 H pid cs) (h' : Obj1 H pid cs') : cs = cs' := by
  have := h.at'.symm.trans h'.at'
  injection this with _ _ _ h4
  simpa using h4
theorem Wk.of_ext {pid : Nat} {H H' : AH} (h : Ext H H') (hp : pid < H.n) : Wk pid H H' :=
  ⟨h.n, fun i hi _ => h.at' i hi, fun i hi => .inl (hi.imp id fun ⟨cs, ho, ha⟩ => ⟨cs, ⟨hp, (h.at' _ hp).symm.trans ho.at'⟩, ha⟩)⟩
theorem Wk.mk' {pid off : Nat} {H H' : AH} {cs : List AV} {av av' : AV} (ho : Obj1 H pid cs) (ho' : Obj1 H' pid (cs.set off av')) (hc : cs[off]? = some av) (hn : H.n ≤ H'.n) (ha : ∀ i, i < H.n → i ≠ pid → ¬ i ∈ idsA av → H'.at' i = H.at' i)
    (hi : ∀ i, i ∈ idsA av' → i ∈ idsA av ∨ H.n ≤ i) : Wk pid H H' := by
  have hav : av ∈ cs := List.mem_of_getElem? hc
  refine ⟨hn, fun i h1 h2 => ha i h1 (fun e => h2 (.inl e)) fun hh => h2 (.inr ⟨cs, ho, av, hav, hh⟩), fun i h => ?_⟩
  rcases h with h | ⟨cs', hcs, a, ha', hia⟩
  · exact .inl (.inl h)
  · have := hcs.same ho'
    subst this
    rcases List.mem_or_eq_of_mem_set ha' with h3 | rfl
    · exact .inl (.inr ⟨cs, ho, a, h3, hia⟩)
    · rcases hi i hia with h4 | h4
      · exact .inl (.inr ⟨cs, ho, av, hav, h4⟩)
      · exact .inr h4
/-- Others live on. -/
theorem Wk.sl {pid z : Nat} {H H' : AH} {a : AV} {els : List AV} (h : Wk pid H H') (hs : Sl H z a els) (hd : ∀ i, i ∈ idA a → ¬ Fp H pid i) : Sl H' z a els := hs.fr h.n fun i hi => h.at' i (hs.lt i hi) (hd i hi)
theorem Wk.bl {pid n0 : Nat} {H H' : AH} (h : Wk pid H H') (hn : n0 ≤ H.n) (hf : ∀ i, Fp H pid i → n0 ≤ i) : Bl n0 H H' := ⟨h.n, fun i hi => h.at' i (by omega) fun hh => by have := hf i hh; omega⟩
theorem WS.fp {H : AH} {n0 pid : Nat} {s : EncSt} (h : WS H n0 pid s) : ∀ i, Fp H pid i → n0 ≤ i := by
  obtain ⟨⟨bv, pl, h1, h2, h3, h4, h5, h6, h7, h8⟩, hge⟩ := h
  rintro i (rfl | ⟨cs, hcs, a, ha, hi⟩)
  · exact hge
  · have := hcs.same h1
    subst this
    simp only [List.mem_cons, List.not_mem_nil, or_false] at ha
    rcases ha with rfl | rfl
    · exact h7 i (by rw [← Mn.ids h2]; exact hi)
    · exact h8 i (by rw [← Mn.ids h3]; exact hi)
/-- A row in an object's field, appended to and laid back. -/
theorem fld_ap {H : AH} {pid z by' off : Nat} {cs els ys : List AV} {av : AV} (ho : Obj1 H pid cs) (hoff : off < cs.length) (hm : Mn H z av els) (hp : ¬ pid ∈ idA av) (hc : cs[off]? = some av) {y : AV} (hb : (els.length + ys.length) * by' ≤ 140737488355328)
    {L : List Lv} {g : Nat} (hy : srcV ⟨L, g, H⟩ y = ys ∧ srcC ⟨L, g, H⟩ z y) : apC ⟨L, g, H⟩ z by' y av ∧ ∃ av' H1, apV ⟨L, g, H⟩ y av = av' ∧ apM ⟨L, g, H⟩ z y av = ⟨L, g, H1⟩ ∧ av'.outs = true ∧ av'.cells = [av'] ∧
      (∀ (L : List Lv) (g : Nat), stC ⟨L, g, H1⟩ av' (.pv pid off)) ∧ ∃ H2, (∀ (L : List Lv) (g : Nat), stM ⟨L, g, H1⟩ av' (.pv pid off) = ⟨L, g, H2⟩) ∧ Obj1 H2 pid (cs.set off av') ∧ Mn H2 z av' (els ++ ys) ∧ H.n ≤ H2.n ∧ (∀ i, i < H.n → i ≠ pid → ¬ i ∈ idA av → H2.at' i = H.at' i) ∧ (∀ i, i ∈ idA av' → i ∈ idA av ∨ H.n ≤ i) ∧ Wk pid H H2 := by
  obtain ⟨p1, av', H1, p2, p3, p4, p5, p6, p7, -⟩ := Mn.ap (by' := by') hm hy hb
  have ob1 : Obj1 H1 pid cs := ho.fr p5 (p6 _ ho.lt hp)
  have hpid : ¬ pid ∈ idA av' := fun hh => by
    rcases p7 _ hh with hh | hh
    · exact hp hh
    · have := ho.lt; omega
  have hone := p4.sl.one
  obtain ⟨q1, H2, q2, q3, q4, q5⟩ := ob1.st (off := off) (v := av') hoff hone
  refine ⟨p1, av', H1, p2, p3, p4.sl.out, hone, q1, H2, q2, q3, p4.fr (Nat.le_of_eq q4.symm) (fun i hi => q5 i fun hm => by simp only [List.mem_singleton] at hm; subst hm; exact hpid hi), by omega, fun i h1 h2 h3 => ?_, p7, .mk' ho q3 hc (by omega) (fun i h1 h2 h3 => ?_) fun i hi => ?_⟩
  · rw [q5 i (by simpa using h2), p6 i h1 h3]
  · rw [q5 i (by simpa using h2), p6 i h1 fun hh => h3 (idA_ids hh)]
  · rcases p7 i (by rw [← Mn.ids p4]; exact hi) with h | h
    · exact .inl (idA_ids h)
    · exact .inr h
theorem WS.apB {H : AH} {n0 pid : Nat} {s : EncSt} (h : WS H n0 pid s) {y : AV} {t : List UInt8} (hl : s.1.length + t.length ≤ 1099511627776) : ∃ bv pl, Obj1 H pid [bv, pl] ∧ Mb H bv s.1 ∧
    ∀ (L : List Lv) (g : Nat), (srcV ⟨L, g, H⟩ y = encB t ∧ srcC ⟨L, g, H⟩ 1 y) → apC ⟨L, g, H⟩ 1 1 y bv ∧ ∃ bv' H1, apV ⟨L, g, H⟩ y bv = bv' ∧ apM ⟨L, g, H⟩ 1 y bv = ⟨L, g, H1⟩ ∧ bv'.outs = true ∧ bv'.cells = [bv'] ∧
      (∀ (L : List Lv) (g : Nat), stC ⟨L, g, H1⟩ bv' (.pv pid 0)) ∧ ∃ H2, (∀ (L : List Lv) (g : Nat), stM ⟨L, g, H1⟩ bv' (.pv pid 0) = ⟨L, g, H2⟩) ∧ WS H2 n0 pid (wrTxt s t) ∧ Wk pid H H2 := by
  obtain ⟨⟨bv, pl, h1, h2, h3, h4, h5, h6, h7, h8⟩, hge⟩ := h
  refine ⟨bv, pl, h1, h2, fun L g hy => ?_⟩
  obtain ⟨a1, bv', H1, a2, a3, a4, a5, a6, H2, a7, a8, a9, b1, b2, b3, b4⟩ := fld_ap (by' := 1) h1 (off := 0) (by simp) h2 h4 rfl (by simp; omega) hy
  refine ⟨a1, bv', H1, a2, a3, a4, a5, a6, H2, a7, ⟨⟨bv', pl, a8, ?_, ?_, fun hh => ?_, h5, fun i hi hj => ?_, fun i hi => ?_, h8⟩, hge⟩, b4⟩
  · show Mn H2 1 bv' (encB (s.1 ++ t)); rw [enc_app]; exact a9
  · exact Mn.fr h3 b1 fun i hi => b2 i (h3.lt i hi) (fun e => h5 (e ▸ hi)) (fun hh => h6 i hh hi)
  · rcases b3 _ hh with hh | hh
    · exact h4 hh
    · have := h1.lt; omega
  · rcases b3 _ hi with hh | hh
    · exact h6 i hh hj
    · have := h3.lt i hj; omega
  · rcases b3 _ hi with hh | hh
    · exact h7 i hh
    · have := h1.lt; omega
theorem WS.apP {H : AH} {n0 pid : Nat} {s : EncSt} (h : WS H n0 pid s) {y : AV} {x : List UInt8 × Nat} (hl : s.2.length ≤ 1099511627776) : ∃ bv pl, Obj1 H pid [bv, pl] ∧ Mb H bv s.1 ∧
    ∀ (L : List Lv) (g : Nat), (srcV ⟨L, g, H⟩ y = [eP.v x] ∧ srcC ⟨L, g, H⟩ 2 y) → apC ⟨L, g, H⟩ 2 24 y pl ∧ ∃ pl' H1, apV ⟨L, g, H⟩ y pl = pl' ∧ apM ⟨L, g, H⟩ 2 y pl = ⟨L, g, H1⟩ ∧ pl'.outs = true ∧ pl'.cells = [pl'] ∧
      (∀ (L : List Lv) (g : Nat), stC ⟨L, g, H1⟩ pl' (.pv pid 1)) ∧ ∃ H2, (∀ (L : List Lv) (g : Nat), stM ⟨L, g, H1⟩ pl' (.pv pid 1) = ⟨L, g, H2⟩) ∧ WS H2 n0 pid (s.1, s.2 ++ [x]) ∧ Wk pid H H2 := by
  obtain ⟨⟨bv, pl, h1, h2, h3, h4, h5, h6, h7, h8⟩, hge⟩ := h
  refine ⟨bv, pl, h1, h2, fun L g hy => ?_⟩
  have h3' : Mn H 2 pl (s.2.map eP.v) := h3
  obtain ⟨a1, pl', H1, a2, a3, a4, a5, a6, H2, a7, a8, a9, b1, b2, b3, b4⟩ := fld_ap (by' := 24) h1 (off := 1) (by simp) h3' h5 rfl (by simp; omega) hy
  refine ⟨a1, pl', H1, a2, a3, a4, a5, a6, H2, a7, ⟨⟨bv, pl', a8, ?_, ?_, h4, fun hh => ?_, fun i hi hj => ?_, h7, fun i hi => ?_⟩, hge⟩, b4⟩
  · exact Mn.fr h2 b1 fun i hi => b2 i (h2.lt i hi) (fun e => h4 (e ▸ hi)) (fun hh => h6 i hi hh)
  · show Mn H2 2 pl' ((s.2 ++ [x]).map eP.v); rw [List.map_append]; exact a9
  · rcases b3 _ hh with hh | hh
    · exact h5 hh
    · have := h1.lt; omega
  · rcases b3 _ hj with hh | hh
    · exact h6 i hi hh
    · have := h2.lt i hi; omega
  · rcases b3 _ hi with hh | hh
    · exact h8 i hh
    · have := h1.lt; omega
def T_wtext (C : Tab) (f : Nat) : Prop := ∀ (n0 pid : Nat) (s : EncSt) (t : List UInt8) (H : AH), WS H n0 pid s → s.1.length + t.length ≤ 1099511627776 → ∃ v H', C f [.pv pid 0, .s t] H = some (v, H') ∧ v = .tp [] ∧ WS H' n0 pid (wrTxt s t) ∧ Wk pid H H'
def T_seen (C : Tab) (f : Nat) : Prop := ∀ (n0 pid : Nat) (s : EncSt) (n : List UInt8) (H : AH), WS H n0 pid s → s.2.length ≤ 1099511627776 → C f [.pv pid 0, .s n] H = some (.i .i64 (match fnd s.2 n with | some p => (p : Int) | none => -1), H)
section
variable {C : Tab}
theorem nc_pv (id off : Nat) : (match AV.pv id off with | .pv .. | .pe .. | .la .. | .fn .. => True | _ => False) = True := rfl
theorem r_wtext {n0 pid : Nat} {s : EncSt} {t : List UInt8} {H : AH} (h : WS H n0 pid s) (hl : s.1.length + t.length ≤ 1099511627776) : Runs C c_spec_l04Text [.pv pid 0, .s t] H fun v H' => v = .tp [] ∧ WS H' n0 pid (wrTxt s t) ∧ Wk pid H H' := by
  unfold Runs c_spec_l04Text
  simp -implicitDefEqProofs only [bU, reduceIte, Nat.reduceEqDiff, reduceCtorEq, implies_true, forall_const, eq_self, Nat.reduceAdd, Nat.reduceLT, bne_self_eq_false, bT, eq_self, true_implies, false_implies, forall_const, if_true, if_false, Int.reduceToNat, Nat.reduceSub, Int.reduceLE]
  refine exec_loop (fun n e M => ∃ (i : Nat) (H' : AH) (L : List Lv) (g : Nat), i ≤ t.length ∧ n = t.length - i ∧ look e 0 = .pv pid 0 ∧ look e 1 = .s t ∧ look e 4 = .i .i64 i ∧ M = ⟨L, g, H'⟩ ∧ WS H' n0 pid (wrTxt s (t.take i)) ∧ Wk pid H H') ?_ (n := t.length) ⟨0, H, _, _, by omega, by omega, rfl, rfl, rfl, rfl, by simpa [wrTxt] using h, .refl _ _⟩
  rintro n e M ⟨i, H', L, g, hi, rfl, q0, q1, q4, rfl, hw, hb⟩
  by_cases hlt : (i : Int) < t.length
  · have hil : i < t.length := by omega
    have z0 : (0 : Int) ≤ i := by omega
    have w9 : IntKind.i64.wrap ((i : Int) + 1) = ((i + 1 : Nat) : Int) := by rw [w64 (by omega) (by omega)]; rfl
    obtain ⟨bv, pl, h1, h2, hap⟩ := hw.apB (y := .ll 19 g 1 1) (t := [t.getD i 0]) (by simp [wrTxt]; omega)
    obtain ⟨a1, a2⟩ := h1.ld (off := 0) (by simp)
    have a2' := fun (L : List Lv) (g : Nat) => (a2 L g).trans (show _ = bv from rfl)
    obtain ⟨p1, bv', H1, p2, p3, p4, p5, p6, H2, p7, p8, p9⟩ := hap (⟨19, g, 0, [.i .u8 (t.getD i 0).toNat]⟩ :: dropL (keepL [0, 1, 4] L) 19) (g + 1) lit_src
    simp -implicitDefEqProofs only [bU, reduceIte, Nat.reduceEqDiff, reduceCtorEq, implies_true, forall_const, eq_self, Nat.reduceAdd, Nat.reduceLT, bne_self_eq_false, bT, eq_self, true_implies, false_implies, forall_const, if_true, if_false, Int.reduceToNat, Nat.reduceSub, Int.reduceLE, nc_pv, lgAt, isRd, Nat.zero_add, Nat.add_zero, pv_faC, pv_faV, q0, q1, q4, hlt, z0, toNat_nat, a1, a2', fillEC, fillE, List.replicate, List.set]
    simp -implicitDefEqProofs only [bU, reduceIte, Nat.reduceEqDiff, reduceCtorEq, implies_true, forall_const, eq_self, Nat.reduceAdd, Nat.reduceLT, bne_self_eq_false, bT, eq_self, true_implies, false_implies, forall_const, if_true, if_false, Int.reduceToNat, Nat.reduceSub, Int.reduceLE, nc_pv, Nat.add_zero, Nat.zero_add, pv_faC, pv_faV, p1, p2, p3, p4, p5, p6, p7, w9]
    refine ⟨t.length - (i + 1), by omega, i + 1, H2, _, _, by omega, rfl, rfl, rfl, ?_, hb.trans p9⟩
    have e : t.take (i + 1) = t.take i ++ [t.getD i 0] := by rw [← List.take_append_getElem hil]; simp [List.getD, hil]
    rw [e]
    simpa [wrTxt] using p8
  · have hie : i = t.length := by omega
    subst hie
    rw [List.take_length] at hw
    simp -implicitDefEqProofs only [bU, reduceIte, Nat.reduceEqDiff, reduceCtorEq, implies_true, forall_const, eq_self, Nat.reduceAdd, Nat.reduceLT, bne_self_eq_false, bT, eq_self, true_implies, false_implies, forall_const, if_true, if_false, Int.reduceToNat, Nat.reduceSub, Int.reduceLE, q0, q1, q4, hlt, endK, rsC, rsV, resV]
    exact ⟨hw, hb⟩
end
end Go.Vm
