import Derived.Test.YtfamnghjibckbaaDoorTt3
import Derived.Test.YtfamnghjibckbaaDoorTt5
import Derived.Test.YtfamnghjibckbaaDoorProg
import Derived.KernelRfl
import Derived.Test.YtfamnghjibckbaaDoorTt4
/- ReadEdns: the program's run. -/
namespace Go.Vm
set_option linter.unusedVariables false
set_option linter.unusedSimpArgs false
theorem rdE_bad1 {m : Msg} (h : m.an.filter isOpt ≠ [] ∨ m.au.filter isOpt ≠ []) : rdE m = (ed0, 32) := by
  rw [rdE, if_pos]
  refine .inl ?_
  rcases h with h | h
  · have := List.length_pos_iff.2 h; omega
  · have := List.length_pos_iff.2 h; omega
theorem rdE_bad2 {m : Msg} (h : (m.ex.filter isOpt).length > 1) : rdE m = (ed0, 32) := by rw [rdE, if_pos (.inr h)]
theorem rdE_bad3 {m : Msg} {r : Rr} {q : List Rr} (h : m.ex.filter isOpt = r :: q) (hr : r.o ≠ [0] ∨ opsD r.d = none) : rdE m = (ed0, 32) := by
  rw [rdE]
  split
  · rfl
  · rw [h]
    simp only
    rcases hr with hr | hr
    · cases opsD r.d with
      | none => rfl
      | some os => simp only [if_neg hr]
    · rw [hr]
theorem filt_none {xs : List Rr} {i : Nat} (hi : i < xs.length) (ht : xs[i].t = 41) : xs.filter isOpt ≠ [] := fun h => by
  have : xs[i] ∈ xs.filter isOpt := List.mem_filter.2 ⟨List.getElem_mem hi, by simp [isOpt, ht]⟩
  rw [h] at this
  cases this
theorem filt_two {xs : List Rr} {i : Nat} {r : Rr} (hi : i < xs.length) (h0 : (xs.take i).filter isOpt = [r]) (ht : xs[i].t = 41) : (xs.filter isOpt).length > 1 := by
  have : xs = xs.take i ++ xs[i] :: xs.drop (i + 1) := by
    rw [← List.drop_eq_getElem_cons hi, List.take_append_drop]
  rw [this, List.filter_append, h0, List.filter_cons, if_pos (by simp [isOpt, ht])]
  simp
section
variable {C : Tab}
set_option maxRecDepth 100000 in
theorem r_impl_ReadEdns {q a b c : AV} {m : Msg} {H : AH} (hU : T_u16 C n_impl_u16) (h : MsgS H q a b c m) (hs : szM m ≤ 1048576) :
    Runs C c_impl_ReadEdns [mV m.h q a b c] H (RePost (rdE m) H) := by
  unfold Runs c_impl_ReadEdns mV
  unfold szM at hs
  have o1 := h.hq.out
  have o2 := h.ha.out
  have o3 := h.hb.out
  have o4 := h.hc.out
  have z2 := h.ha.one
  have z3 := h.hb.one
  simp -implicitDefEqProofs only [bU, reduceIte, Nat.reduceEqDiff, reduceCtorEq, implies_true, forall_const, eq_self, Nat.reduceAdd, Nat.reduceLT, bne_self_eq_false, bT, eq_self, true_implies, false_implies, forall_const, if_true, if_false, Int.reduceToNat, Nat.reduceSub, Int.reduceLE, bV, Nat.reduceAdd, Nat.reduceLT, Nat.reduceLeDiff, Nat.reduceLeDiff, o1, o2, o3, o4, z2, z3, fillEC, fillE, List.replicate, List.set, lenV, lenC]
  refine exec_loop (fun n e M => ∃ (j : Nat) (L : List Lv) (g : Nat), j ≤ 2 ∧ n = 2 - j ∧ look e 1 = .la 1 0 0 0 ∧ look e 2 = .la 2 1 0 0 ∧ look e 17 = .ll 17 2 1 2 ∧ look e 18 = .i .i64 2 ∧ look e 19 = .i .i64 j ∧ M = ⟨L, g, H⟩ ∧
    keepL [1, 2, 17, 18, 19] L = [⟨17, 2, 0, [a, b]⟩, ⟨2, 1, 0, [.ag [.b false, .i .i64 0, .i .i64 0, .i .i64 0, .ns]]⟩, ⟨1, 0, 0, [mV m.h q a b c]⟩] ∧ (0 < j → m.an.filter isOpt = []) ∧ (1 < j → m.au.filter isOpt = [])) ?_ (n := 2)
    ⟨0, _, _, by omega, by omega, rfl, rfl, rfl, rfl, rfl, rfl, rfl, by omega, by omega⟩
  rintro n e M ⟨j, L, g, hj, rfl, q1, q2, q17, q18, q19, rfl, hL, hf1, hf2⟩
  unfold mV at hL
  by_cases hj2 : (j : Int) < 2
  · have hjn : j < 2 := by omega
    obtain ⟨ax, xs, hax, hget, hbad, hxl, hnx⟩ : ∃ ax xs, Sx H eR ax xs ∧ [a, b].getD j .u = ax ∧ (xs.filter isOpt ≠ [] → rdE m = (ed0, 32)) ∧ xs.length ≤ 1048576 ∧ (xs.filter isOpt = [] → (0 < j + 1 → m.an.filter isOpt = []) ∧ (1 < j + 1 → m.au.filter isOpt = [])) := by
      obtain rfl | rfl : j = 0 ∨ j = 1 := by omega
      · exact ⟨a, m.an, h.ha, rfl, fun hx => rdE_bad1 (.inl hx), by omega, fun hx => ⟨fun _ => hx, by omega⟩⟩
      · exact ⟨b, m.au, h.hb, rfl, fun hx => rdE_bad1 (.inr hx), by omega, fun hx => ⟨fun _ => hf1 (by omega), fun _ => hx⟩⟩
    obtain ⟨l1, l2⟩ := hax.len
    have j0 : (0 : Int) ≤ j := by omega
    have za := hax.one
    have hia : iaC (j : Int) (.ll 17 2 1 2) := ⟨j0, hj2⟩
    have w9 : IntKind.i64.wrap ((j : Int) + 1) = ((j + 1 : Nat) : Int) := by rw [w64 (by omega) (by omega)]; rfl
    simp -implicitDefEqProofs only [bU, reduceIte, Nat.reduceEqDiff, reduceCtorEq, implies_true, forall_const, eq_self, Nat.reduceAdd, Nat.reduceLT, bne_self_eq_false, bT, eq_self, true_implies, false_implies, forall_const, if_true, if_false, Int.reduceToNat, Nat.reduceSub, Int.reduceLE, bV, Nat.reduceAdd, Nat.reduceLT, Nat.reduceLeDiff, Nat.reduceLeDiff, q1, q2, q17, q18, q19, hj2, hL, slZ, hia, iaV, toNat_nat, hget, hjn, za, l1, l2]
    refine exec_loop (fun n e M => ∃ (i : Nat) (L : List Lv) (g : Nat), i ≤ xs.length ∧ n = xs.length - i ∧ look e 1 = .la 1 0 0 0 ∧ look e 2 = .la 2 1 0 0 ∧ look e 17 = .ll 17 2 1 2 ∧ look e 18 = .i .i64 2 ∧ look e 19 = .i .i64 j ∧ look e 23 = ax ∧ look e 24 = .i .i64 xs.length ∧ look e 25 = .i .i64 i ∧ M = ⟨L, g, H⟩ ∧
      keepL [1, 2, 17, 18, 19, 23, 24, 25] L = [⟨17, 2, 0, [a, b]⟩, ⟨2, 1, 0, [.ag [.b false, .i .i64 0, .i .i64 0, .i .i64 0, .ns]]⟩, ⟨1, 0, 0, [mV m.h q a b c]⟩] ∧ (xs.take i).filter isOpt = []) ?_ (n := xs.length)
      ⟨0, _, _, by omega, by omega, rfl, rfl, rfl, rfl, rfl, rfl, rfl, rfl, rfl, rfl, rfl⟩
    clear q1 q2 q17 q18 q19 hL
    rintro n e M ⟨i, L, g, hi, rfl, q1, q2, q17, q18, q19, q23, q24, q25, rfl, hL, hf⟩
    unfold mV at hL
    by_cases hlt : (i : Int) < xs.length
    · have hil : i < xs.length := by omega
      obtain ⟨b1, b2, b3, b4⟩ := Sx.at' hax hil
      simp only [show eR.z = 5 from rfl, show eR.v xs[i] = AV.ag [.s (xs[i]).o, .i .i64 (xs[i]).t, .i .i64 (xs[i]).c, .i .i64 (xs[i]).ttl, .s (xs[i]).d] from rfl] at b1 b3 b4
      have hsn := filt_snoc hil
      have w8 : IntKind.i64.wrap ((i : Int) + 1) = ((i + 1 : Nat) : Int) := by rw [w64 (by omega) (by omega)]; rfl
      by_cases ht : (xs[i]).t = 41
      · simp -implicitDefEqProofs only [bU, reduceIte, Nat.reduceEqDiff, reduceCtorEq, implies_true, forall_const, eq_self, Nat.reduceAdd, Nat.reduceLT, bne_self_eq_false, bT, eq_self, true_implies, false_implies, forall_const, if_true, if_false, Int.reduceToNat, Nat.reduceSub, Int.reduceLE, bV, Nat.reduceAdd, Nat.reduceLT, Nat.reduceLeDiff, Nat.reduceLeDiff, q1, q2, q17, q18, q19, q23, q24, q25, hlt, hL, b1, b2, b3, b4, toNat_nat, ht, endK, rsC, rsV, resV]
        rw [hbad (filt_none hil ht)]
        exact .bad (.refl _)
      · rw [if_neg ht, List.append_nil] at hsn
        simp -implicitDefEqProofs only [bU, reduceIte, Nat.reduceEqDiff, reduceCtorEq, implies_true, forall_const, eq_self, Nat.reduceAdd, Nat.reduceLT, bne_self_eq_false, bT, eq_self, true_implies, false_implies, forall_const, if_true, if_false, Int.reduceToNat, Nat.reduceSub, Int.reduceLE, bV, Nat.reduceAdd, Nat.reduceLT, Nat.reduceLeDiff, Nat.reduceLeDiff, q1, q2, q17, q18, q19, q23, q24, q25, hlt, hL, b1, b2, b3, b4, toNat_nat, ht, w8]
        exact ⟨xs.length - (i + 1), by omega, i + 1, _, _, by omega, rfl, rfl, rfl, rfl, hsn.trans hf⟩
    · have hil : i = xs.length := by omega
      rw [hil, List.take_length] at hf
      simp -implicitDefEqProofs only [bU, reduceIte, Nat.reduceEqDiff, reduceCtorEq, implies_true, forall_const, eq_self, Nat.reduceAdd, Nat.reduceLT, bne_self_eq_false, bT, eq_self, true_implies, false_implies, forall_const, if_true, if_false, Int.reduceToNat, Nat.reduceSub, Int.reduceLE, bV, Nat.reduceAdd, Nat.reduceLT, Nat.reduceLeDiff, Nat.reduceLeDiff, q1, q2, q17, q18, q19, q23, q24, q25, hlt, hL, w9]
      exact ⟨2 - (j + 1), by omega, j + 1, _, _, by omega, rfl, rfl, rfl, rfl, hnx hf⟩
  · have hjn : j = 2 := by omega
    have hg1 := hf1 (by omega)
    have hg2 := hf2 (by omega)
    obtain ⟨l1, l2⟩ := h.hc.len
    simp -implicitDefEqProofs only [bU, reduceIte, Nat.reduceEqDiff, reduceCtorEq, implies_true, forall_const, eq_self, Nat.reduceAdd, Nat.reduceLT, bne_self_eq_false, bT, eq_self, true_implies, false_implies, forall_const, if_true, if_false, Int.reduceToNat, Nat.reduceSub, Int.reduceLE, bV, Nat.reduceAdd, Nat.reduceLT, Nat.reduceLeDiff, Nat.reduceLeDiff, q1, q2, q17, q18, q19, hj2, hL, o4, l1, l2]
    refine exec_loop (fun n e M => ∃ (i g8 : Nat) (ed : Ed) (ao : AV) (H' : AH) (L : List Lv) (g : Nat), i ≤ m.ex.length ∧ n = m.ex.length - i ∧ look e 2 = .la 2 1 0 0 ∧ look e 8 = .la 8 g8 0 0 ∧ look e 36 = c ∧ look e 37 = .i .i64 m.ex.length ∧ look e 38 = .i .i64 i ∧ M = ⟨L, g, H'⟩ ∧
      keepL [2, 8, 36, 37, 38] L = [⟨8, g8, 0, [edV ed ao]⟩, ⟨2, 1, 0, [.ag [.b false, .i .i64 0, .i .i64 0, .i .i64 0, .ns]]⟩] ∧ Ext H H' ∧ Mx H' eO ao ed.os ∧ (∀ i, i ∈ idA ao → H.n ≤ i) ∧
      (((m.ex.take i).filter isOpt = [] ∧ ed = ed0) ∨ ∃ r, (m.ex.take i).filter isOpt = [r] ∧ r.o = [0] ∧ opsD r.d = some ed.os ∧ ed = edR r ed.os)) ?_ (n := m.ex.length)
      ⟨0, g, ed0, .ns, H, _, _, by omega, by omega, rfl, rfl, rfl, rfl, rfl, rfl, rfl, .refl _, .nil, by simp [idA], .inl ⟨rfl, rfl⟩⟩
    clear q1 q2 q17 q18 q19 hL
    rintro n e M ⟨i, g8, ed, ao, H', L, g, hi, rfl, q2, q8, q36, q37, q38, rfl, hL, he, hm, hid, hst⟩
    unfold edV at hL
    have ho := hm.sl.out
    have hone := hm.sl.one
    have hrd : ((m.ex.filter isOpt).length ≤ 1) → rdE m = (match m.ex.filter isOpt with
        | [] => (ed0, 0)
        | r :: _ => match opsD r.d with
          | none => (ed0, 32)
          | some os => if r.o = [0] then (edR r os, 0) else (ed0, 32)) := fun h1 => by
      rw [rdE, if_neg (by rw [hg1, hg2]; simp; omega)]; rfl
    by_cases hlt : (i : Int) < m.ex.length
    · have hil : i < m.ex.length := by omega
      obtain ⟨b1, b2, b3, b4⟩ := Sx.at' (Sl.ext h.hc he) hil
      simp only [show eR.z = 5 from rfl, show eR.v m.ex[i] = AV.ag [.s (m.ex[i]).o, .i .i64 (m.ex[i]).t, .i .i64 (m.ex[i]).c, .i .i64 (m.ex[i]).ttl, .s (m.ex[i]).d] from rfl] at b1 b3 b4
      have hsn := filt_snoc hil
      have w9 : IntKind.i64.wrap ((i : Int) + 1) = ((i + 1 : Nat) : Int) := by rw [w64 (by omega) (by omega)]; rfl
      have hmem : m.ex[i] ∈ m.ex := List.getElem_mem hil
      have hwd : (m.ex[i]).d.length ≤ 1048576 := by have := tot_mem' (w := w_RR) hmem; simp only [w_RR] at this; omega
      by_cases ht : (m.ex[i]).t = 41
      · rw [if_pos ht] at hsn
        by_cases hp : ed.p = true
        · have hbad : rdE m = (ed0, 32) := by
            rcases hst with ⟨-, rfl⟩ | ⟨r, h1, -⟩
            · cases hp
            · exact rdE_bad2 (filt_two hil h1 ht)
          simp -implicitDefEqProofs only [bU, reduceIte, Nat.reduceEqDiff, reduceCtorEq, implies_true, forall_const, eq_self, Nat.reduceAdd, Nat.reduceLT, bne_self_eq_false, bT, eq_self, true_implies, false_implies, forall_const, if_true, if_false, Int.reduceToNat, Nat.reduceSub, Int.reduceLE, bV, Nat.reduceAdd, Nat.reduceLT, Nat.reduceLeDiff, Nat.reduceLeDiff, q2, q8, q36, q37, q38, hlt, hL, b1, b2, b3, b4, toNat_nat, ht, hp, endK, rsC, rsV, resV]
          rw [hbad]
          exact .bad he
        · have hpf : ed.p = false := by simpa using hp
          have hf : (m.ex.take i).filter isOpt = [] := by
            rcases hst with ⟨h1, -⟩ | ⟨r, -, -, -, h2⟩
            · exact h1
            · rw [h2] at hpf; cases hpf
          have hfst := filt_first hil hf ht
          by_cases hroot : (m.ex[i]).o = [0]
          case neg =>
            simp -implicitDefEqProofs only [bU, reduceIte, Nat.reduceEqDiff, reduceCtorEq, implies_true, forall_const, eq_self, Nat.reduceAdd, Nat.reduceLT, bne_self_eq_false, bT, eq_self, true_implies, false_implies, forall_const, if_true, if_false, Int.reduceToNat, Nat.reduceSub, Int.reduceLE, bV, Nat.reduceAdd, Nat.reduceLT, Nat.reduceLeDiff, Nat.reduceLeDiff, q2, q8, q36, q37, q38, hlt, hL, b1, b2, b3, b4, toNat_nat, ht, hpf, hroot, endK, rsC, rsV, resV]
            rw [rdE_bad3 hfst (.inl hroot)]
            exact .bad he
          simp -implicitDefEqProofs only [bU, reduceIte, Nat.reduceEqDiff, reduceCtorEq, implies_true, forall_const, eq_self, Nat.reduceAdd, Nat.reduceLT, bne_self_eq_false, bT, eq_self, true_implies, false_implies, forall_const, if_true, if_false, Int.reduceToNat, Nat.reduceSub, Int.reduceLE, bV, Nat.reduceAdd, Nat.reduceLT, Nat.reduceLeDiff, Nat.reduceLeDiff, q2, q8, q36, q37, q38, hlt, hL, b1, b2, b3, b4, toNat_nat, ht, hpf, hroot, ho, hone]
          refine exec_loop (fun n e M => ∃ (s : List UInt8) (os : List Opt) (ao : AV) (H' : AH) (L : List Lv) (g : Nat), n = s.length ∧ look e 2 = .la 2 1 0 0 ∧ look e 8 = .la 8 g8 0 0 ∧ look e 11 = .s s ∧ look e 36 = c ∧ look e 37 = .i .i64 m.ex.length ∧ look e 38 = .i .i64 i ∧ M = ⟨L, g, H'⟩ ∧
            keepL [2, 8, 11, 36, 37, 38] L = [⟨8, g8, 0, [edV (edR m.ex[i] os) ao]⟩, ⟨2, 1, 0, [.ag [.b false, .i .i64 0, .i .i64 0, .i .i64 0, .ns]]⟩] ∧ Ext H H' ∧ Mx H' eO ao os ∧ (∀ i, i ∈ idA ao → H.n ≤ i) ∧
            os.length + s.length ≤ (m.ex[i]).d.length ∧ opsD (m.ex[i]).d = (opsD s).map fun q => os ++ q) ?_ (n := (m.ex[i]).d.length)
            ⟨(m.ex[i]).d, [], .ns, H', _, _, rfl, rfl, rfl, rfl, rfl, rfl, rfl, rfl, rfl, he, .nil, by simp [idA], by simp, by simp⟩
          clear q2 q8 q36 q37 q38 hL ho hone hm hid b1 b2 b3 b4 he
          rintro n e M ⟨s, os, ao, H', L, g, rfl, q2, q8, q11, q36, q37, q38, rfl, hL, he, hm, hid, hl, hop⟩
          unfold edV at hL
          have ho := hm.sl.out
          have hone := hm.sl.one
          simp only [edR] at hL
          by_cases hs : s = []
          · subst hs
            rw [opsD_nil] at hop
            simp only [Option.map_some, List.append_nil] at hop
            simp -implicitDefEqProofs only [bU, reduceIte, Nat.reduceEqDiff, reduceCtorEq, implies_true, forall_const, eq_self, Nat.reduceAdd, Nat.reduceLT, bne_self_eq_false, bT, eq_self, true_implies, false_implies, forall_const, if_true, if_false, Int.reduceToNat, Nat.reduceSub, Int.reduceLE, bV, Nat.reduceAdd, Nat.reduceLT, Nat.reduceLeDiff, Nat.reduceLeDiff, q2, q8, q11, q36, q37, q38, hL, ho, hone, w9]
            exact ⟨m.ex.length - (i + 1), by omega, i + 1, g8, edR m.ex[i] os, ao, H', _, _, by omega, rfl, rfl, rfl, rfl, rfl, he, hm, hid, .inr ⟨m.ex[i], by rw [hsn, hf]; rfl, hroot, hop, rfl⟩⟩
          have hs0 : 0 < s.length := List.length_pos_iff.2 hs
          by_cases h4 : (s.length : Int) < 4
          · rw [opsD_bad hs (by omega)] at hop
            simp only [Option.map_none] at hop
            simp -implicitDefEqProofs only [bU, reduceIte, Nat.reduceEqDiff, reduceCtorEq, implies_true, forall_const, eq_self, Nat.reduceAdd, Nat.reduceLT, bne_self_eq_false, bT, eq_self, true_implies, false_implies, forall_const, if_true, if_false, Int.reduceToNat, Nat.reduceSub, Int.reduceLE, bV, Nat.reduceAdd, Nat.reduceLT, Nat.reduceLeDiff, Nat.reduceLeDiff, q2, q8, q11, q36, q37, q38, hL, hs, h4, endK, rsC, rsV, resV]
            rw [rdE_bad3 hfst (.inr hop)]
            exact .bad he
          have e2 : (s.drop 2).take (s.length - 2) = s.drop 2 := List.take_of_length_le (by simp)
          have c1 := hU (s.drop 2) H' (by simp; omega)
          have c2 := hU s H' (by omega)
          have hlt2 := num2_lt (s.drop 2)
          have r2 : (2 : Int) ≤ s.length := by omega
          generalize hn : num ((s.drop 2).take 2) 0 = k at *
          have w4 : IntKind.i64.wrap (4 + (k : Int)) = ((4 + k : Nat) : Int) := by rw [w64 (by omega) (by omega)]; omega
          by_cases hb : (s.length : Int) < ((4 + k : Nat) : Int)
          · rw [opsD_bad hs (by omega)] at hop
            simp only [Option.map_none] at hop
            simp -implicitDefEqProofs only [bU, reduceIte, Nat.reduceEqDiff, reduceCtorEq, implies_true, forall_const, eq_self, Nat.reduceAdd, Nat.reduceLT, bne_self_eq_false, bT, eq_self, true_implies, false_implies, forall_const, if_true, if_false, Int.reduceToNat, Nat.reduceSub, Int.reduceLE, bV, Nat.reduceAdd, Nat.reduceLT, Nat.reduceLeDiff, Nat.reduceLeDiff, q2, q8, q11, q36, q37, q38, hL, hs, h4, r2, e2, c1, w4, hb, Int.reduceToNat, Int.reduceLE, Int.le_refl, toNat_nat, endK, rsC, rsV, resV]
            rw [rdE_bad3 hfst (.inr hop)]
            exact .bad he
          have hop' := opsD_ok hs (by omega)
          rw [hop', Option.map_map, hn] at hop
          have r5 : (4 : Int) ≤ ((4 + k : Nat) : Int) := by omega
          have r6 : ((4 + k : Nat) : Int) ≤ s.length := by omega
          have r7 : (0 : Int) ≤ ((4 + k : Nat) : Int) := by omega
          have r8 : 4 + k - 4 = k := by omega
          have e1 : opt1 s = (((num (s.take 2) 0 : Nat) : Int), (s.drop 4).take k) := by rw [opt1, hn]
          have e3 : (s.drop (4 + k)).take (s.length - (4 + k)) = s.drop (4 + k) := List.take_of_length_le (by simp)
          obtain ⟨p1, o', H2, p2, p3, p4, p5, p6, p7, -⟩ := Mn.ap (z := 2) (by' := 24) hm (lit_srcE (t := 88) (g := g) (x := opt1 s) (L := [⟨8, g8, 0, [edV (edR m.ex[i] os) ao]⟩, ⟨2, 1, 0, [.ag [.b false, .i .i64 0, .i .i64 0, .i .i64 0, .ns]]⟩]) (H := H')) (by simp; omega)
          simp only [e1, edV, edR] at p1 p2 p3
          simp -implicitDefEqProofs only [bU, reduceIte, Nat.reduceEqDiff, reduceCtorEq, implies_true, forall_const, eq_self, Nat.reduceAdd, Nat.reduceLT, bne_self_eq_false, bT, eq_self, true_implies, false_implies, forall_const, if_true, if_false, Int.reduceToNat, Nat.reduceSub, Int.reduceLE, bV, Nat.reduceAdd, Nat.reduceLT, Nat.reduceLeDiff, Nat.reduceLeDiff, q2, q8, q11, q36, q37, q38, hL, hs, h4, r2, r5, r6, r7, r8, e2, e3, c1, c2, w4, hb, Int.reduceToNat, Int.reduceLE, Int.le_refl, toNat_nat, fillEC, fillE, List.replicate, List.set, ho, hone]
          have oo := (Mn.sl p4).out
          have oz := (Mn.sl p4).one
          simp -implicitDefEqProofs only [bU, reduceIte, Nat.reduceEqDiff, reduceCtorEq, implies_true, forall_const, eq_self, Nat.reduceAdd, Nat.reduceLT, bne_self_eq_false, bT, eq_self, true_implies, false_implies, forall_const, if_true, if_false, Int.reduceToNat, Nat.reduceSub, Int.reduceLE, bV, Nat.reduceAdd, Nat.reduceLT, Nat.reduceLeDiff, Nat.reduceLeDiff, p1, p2, p3, oo, oz, e3]
          refine ⟨(s.drop (4 + k)).length, by simp; omega, s.drop (4 + k), os ++ [opt1 s], o', H2, _, _, rfl, rfl, rfl, rfl, he.put hid p5 p6, ?_, fun j hj => ?_, by simp; omega, ?_⟩
          · have : Mn H2 2 o' (os.map eO.v ++ [eO.v (opt1 s)]) := p4
            unfold Mx
            rw [List.map_append]
            exact this
          · rcases p7 j hj with h | h
            · exact hid j h
            · have := he.n; omega
          · rw [hop]
            cases opsD (s.drop (4 + k)) <;> simp
      · rw [if_neg ht, List.append_nil] at hsn
        simp -implicitDefEqProofs only [bU, reduceIte, Nat.reduceEqDiff, reduceCtorEq, implies_true, forall_const, eq_self, Nat.reduceAdd, Nat.reduceLT, bne_self_eq_false, bT, eq_self, true_implies, false_implies, forall_const, if_true, if_false, Int.reduceToNat, Nat.reduceSub, Int.reduceLE, bV, Nat.reduceAdd, Nat.reduceLT, Nat.reduceLeDiff, Nat.reduceLeDiff, q2, q8, q36, q37, q38, hlt, hL, b1, b2, b3, b4, toNat_nat, ht, w9]
        exact ⟨m.ex.length - (i + 1), by omega, i + 1, g8, ed, ao, H', _, _, by omega, rfl, rfl, rfl, rfl, rfl, he, hm, hid, by rw [hsn]; exact hst⟩
    · have hil : i = m.ex.length := by omega
      rw [hil, List.take_length] at hst
      simp -implicitDefEqProofs only [bU, reduceIte, Nat.reduceEqDiff, reduceCtorEq, implies_true, forall_const, eq_self, Nat.reduceAdd, Nat.reduceLT, bne_self_eq_false, bT, eq_self, true_implies, false_implies, forall_const, if_true, if_false, Int.reduceToNat, Nat.reduceSub, Int.reduceLE, bV, Nat.reduceAdd, Nat.reduceLT, Nat.reduceLeDiff, Nat.reduceLeDiff, q2, q8, q36, q37, q38, hlt, hL, ho, hone, endK, rsC, rsV, resV]
      have hre : rdE m = (ed, 0) := by
        rcases hst with ⟨h1, rfl⟩ | ⟨r, h1, h2, h3, h4⟩
        · rw [hrd (by rw [h1]; simp), h1]
        · rw [hrd (by rw [h1]; simp), h1]
          simp only [h3, h2, if_true]
          rw [← h4]
      rw [hre]
      exact ⟨ao, rfl, hm, he, hid⟩
end
end Go.Vm
/- Functions' code as literals of the abstract machine, printed by wip/tools/lits.py; the kernel checks each against the translation. -/
namespace Go.Vm
set_option linter.unusedVariables false
set_option linter.unusedSimpArgs false
end Go.Vm
/- Draws of the laws: a source of numbers, drawn options. Only what holds of every draw. -/
namespace Go.Vm
set_option linter.unusedVariables false
set_option linter.unusedSimpArgs false
/-- A source: its code, its place, its state. -/
structure Src (H : AH) (id : Nat) (a : AV) (l : List UInt8) : Prop where
  ex : ∃ pos st : Int, Obj1 H id [a, .i .i64 pos, .i .u64 st] ∧ 0 ≤ pos ∧ pos ≤ l.length
  by' : Byt H a l
  ne : ¬ id ∈ idA a
theorem Src.ext {H H' : AH} {id : Nat} {a : AV} {l : List UInt8} (h : Src H id a l) (he : Ext H H') : Src H' id a l := by
  obtain ⟨⟨pos, st, h1, h2, h3⟩, h4, h5⟩ := h
  exact ⟨⟨pos, st, h1.ext he, h2, h3⟩, Sl.ext h4 he, h5⟩
section
variable {C : Tab}
theorem Src.lt {H : AH} {id : Nat} {a : AV} {l : List UInt8} (h : Src H id a l) : id < H.n := by
  obtain ⟨⟨_, _, h1, -⟩, -⟩ := h
  exact h1.lt
theorem Src.kp {H H' : AH} {ids : List Nat} {id : Nat} {a : AV} {l : List UInt8} (h : Src H id a l) (hk : Kp ids H H') (hi : ¬ id ∈ ids) (ha : ∀ i, i ∈ idA a → ¬ i ∈ ids) : Src H' id a l := by
  obtain ⟨⟨pos, st, h1, h2, h3⟩, h4, h5⟩ := h
  exact ⟨⟨pos, st, h1.kp hk hi, h2, h3⟩, hk.sl h4 ha, h5⟩
end
end Go.Vm
/- Drawn records of a sender: whatever is drawn, it is of bounded size. -/
namespace Go.Vm
set_option linter.unusedVariables false
set_option linter.unusedSimpArgs false
theorem rep_enc (n : Nat) : List.replicate n (AV.i .u8 0) = encB (List.replicate n 0) := by simp [encB]
section
variable {C : Tab}
end
end Go.Vm
/- The reader of messages: numbers, the head, the reader's steps. -/
namespace Go.Vm
set_option linter.unusedVariables false
set_option linter.unusedSimpArgs false
theorem or_u32 {x y k : Nat} (hy : y < 2 ^ k) (h : x * 2 ^ k + y < 4294967296) : bitw .or .u32 (y : Int) ((x * 2 ^ k : Nat) : Int) = ((x * 2 ^ k + y : Nat) : Int) := by
  have e2 : y ||| x * 2 ^ k = x * 2 ^ k + y := by
    have := Nat.two_pow_add_eq_or_of_lt (i := k) (b := y) hy x
    rw [Nat.mul_comm, Nat.or_comm]; exact this.symm
  unfold bitw
  simp only
  rw [show IntKind.u32.bits = 32 from rfl, BitVec.ofInt_natCast, BitVec.ofInt_natCast, BitVec.toNat_or, BitVec.toNat_ofNat, BitVec.toNat_ofNat, Nat.mod_eq_of_lt (by omega), Nat.mod_eq_of_lt (by omega), e2, IntKind.wrap_u32]
  omega
theorem and_low {n k : Nat} (hn : n < 9223372036854775808) (hk : k ≤ 32) : bitw .and .i64 (n : Int) ((2 ^ k - 1 : Nat) : Int) = ((n % 2 ^ k : Nat) : Int) := by
  have hp : 2 ^ k ≤ 2 ^ 32 := Nat.pow_le_pow_right (by decide) hk
  have h0 : 0 < 2 ^ k := Nat.pow_pos (by decide)
  have hm : n % 2 ^ k < 2 ^ k := Nat.mod_lt _ h0
  generalize hP : 2 ^ k = p at *
  unfold bitw
  simp only
  rw [show IntKind.i64.bits = 64 from rfl, BitVec.ofInt_natCast, BitVec.ofInt_natCast, BitVec.toNat_and, BitVec.toNat_ofNat, BitVec.toNat_ofNat, Nat.mod_eq_of_lt (by omega), Nat.mod_eq_of_lt (by omega), ← hP, Nat.and_two_pow_sub_one_eq_mod, hP, w64 (by omega) (by omega)]
theorem num4 {a b c d : UInt8} : num [a, b, c, d] 0 = ((a.toNat * 256 + b.toNat) * 256 + c.toNat) * 256 + d.toNat := by simp [num]
theorem be4 (a b c d : Nat) : a * 2 ^ 24 + (b * 2 ^ 16 + (c * 2 ^ 8 + d)) = ((a * 256 + b) * 256 + c) * 256 + d := by omega
def T_Uint32 (C : Tab) (f : Nat) : Prop := ∀ (x a : AV) (l : List UInt8) (H : AH), x.outs = true → Byt H a l → l.length = 4 → C f [x, a] H = some (.i .u32 (num l 0 : Nat), H)
def T_u32 (C : Tab) (f : Nat) : Prop := ∀ (d : List UInt8) (H : AH), 4 ≤ d.length → ∃ v H', C f [.s d] H = some (v, H') ∧ v = .i .i64 (num (d.take 4) 0 : Nat) ∧ Ext H H'
def bitN (n k : Nat) : Bool := decide (n / 2 ^ k % 2 = 1)
def T_bit (C : Tab) (f : Nat) : Prop := ∀ (n k : Nat) (H : AH), n < 9223372036854775808 → k ≤ 62 → C f [.i .i64 n, .i .u64 k] H = some (.b (bitN n k), H)
section
variable {C : Tab}
theorem r_bit {n k : Nat} {H : AH} (hn : n < 9223372036854775808) (hk : k ≤ 62) : Runs C c_impl_bit [.i .i64 n, .i .u64 k] H fun v H' => H' = H ∧ v = .b (bitN n k) := by
  unfold Runs c_impl_bit
  have k0 : (0 : Int) ≤ k := by omega
  have hm : min (k : Int).toNat IntKind.i64.bits = k := by
    rw [show IntKind.i64.bits = 64 from rfl]; omega
  have v : (n : Int).fdiv (2 ^ (min (k : Int).toNat IntKind.i64.bits)) = ((n / 2 ^ k : Nat) : Int) := by rw [hm]; exact fdiv_nat n k
  have hd : n / 2 ^ k ≤ n := Nat.div_le_self _ _
  have a : bitw .and .i64 ((n / 2 ^ k : Nat) : Int) 1 = ((n / 2 ^ k % 2 : Nat) : Int) := and_low (k := 1) (by omega) (by decide)
  simp -implicitDefEqProofs only [bU, reduceIte, Nat.reduceEqDiff, reduceCtorEq, implies_true, forall_const, eq_self, Nat.reduceAdd, Nat.reduceLT, bne_self_eq_false, bT, eq_self, true_implies, false_implies, forall_const, if_true, if_false, Int.reduceToNat, Nat.reduceSub, Int.reduceLE, k0, v, a, endK, rsC, rsV, resV]
  unfold bitN
  congr 1
  exact propext (by omega)
theorem r_Uint32 {x a : AV} {l : List UInt8} {H : AH} (hx : x.outs = true) (h : Byt H a l) (hl : l.length = 4) : Runs C c_binary_bigEndian_Uint32 [x, a] H fun v H' => H' = H ∧ v = .i .u32 (num l 0 : Nat) := by
  unfold Runs c_binary_bigEndian_Uint32
  obtain ⟨b0, b1, b2, b3, rfl⟩ : ∃ b0 b1 b2 b3, l = [b0, b1, b2, b3] := by
    match l, hl with
    | [b0, b1, b2, b3], _ => exact ⟨b0, b1, b2, b3, rfl⟩
  have oo := h.out
  have i3 := fun (L : List Lv) (g : Nat) => h.ia (j := 3) (by omega) (by simp) L g
  have i2 := fun (L : List Lv) (g : Nat) => h.ia (j := 2) (by omega) (by simp) L g
  have i1 := fun (L : List Lv) (g : Nat) => h.ia (j := 1) (by omega) (by simp) L g
  have i0 := fun (L : List Lv) (g : Nat) => h.ia (j := 0) (by omega) (by simp) L g
  simp only [List.getD_cons_succ, List.getD_cons_zero, Int.reduceToNat] at i3 i2 i1 i0
  obtain ⟨z1, z3, -⟩ := i3 [] 0
  obtain ⟨-, z2, -⟩ := i2 [] 0
  obtain ⟨-, zb, -⟩ := i1 [] 0
  obtain ⟨-, za, -⟩ := i0 [] 0
  have l0 := b0.toNat_lt; have l1 := b1.toNat_lt; have l2 := b2.toNat_lt; have l3 := b3.toNat_lt
  have w0 : IntKind.u32.wrap (b0.toNat : Int) = b0.toNat := by rw [IntKind.wrap_u32]; omega
  have w1 : IntKind.u32.wrap (b1.toNat : Int) = b1.toNat := by rw [IntKind.wrap_u32]; omega
  have w2 : IntKind.u32.wrap (b2.toNat : Int) = b2.toNat := by rw [IntKind.wrap_u32]; omega
  have w3 : IntKind.u32.wrap (b3.toNat : Int) = b3.toNat := by rw [IntKind.wrap_u32]; omega
  have v2 : IntKind.u32.wrap ((b2.toNat : Int) * 2 ^ (min 8 IntKind.u32.bits)) = ((b2.toNat * 2 ^ 8 : Nat) : Int) := by rw [IntKind.wrap_u32, show (2 : Int) ^ (min 8 IntKind.u32.bits) = 256 from by decide]; omega
  have v1 : IntKind.u32.wrap ((b1.toNat : Int) * 2 ^ (min 16 IntKind.u32.bits)) = ((b1.toNat * 2 ^ 16 : Nat) : Int) := by rw [IntKind.wrap_u32, show (2 : Int) ^ (min 16 IntKind.u32.bits) = 65536 from by decide]; omega
  have v0 : IntKind.u32.wrap ((b0.toNat : Int) * 2 ^ (min 24 IntKind.u32.bits)) = ((b0.toNat * 2 ^ 24 : Nat) : Int) := by rw [IntKind.wrap_u32, show (2 : Int) ^ (min 24 IntKind.u32.bits) = 16777216 from by decide]; omega
  have o2 := or_u32 (x := b2.toNat) (y := b3.toNat) (k := 8) (by omega) (by omega)
  have o1 := or_u32 (x := b1.toNat) (y := b2.toNat * 2 ^ 8 + b3.toNat) (k := 16) (by omega) (by omega)
  have o0 := or_u32 (x := b0.toNat) (y := b1.toNat * 2 ^ 16 + (b2.toNat * 2 ^ 8 + b3.toNat)) (k := 24) (by omega) (by omega)
  simp -implicitDefEqProofs only [bU, reduceIte, Nat.reduceEqDiff, reduceCtorEq, implies_true, forall_const, eq_self, Nat.reduceAdd, Nat.reduceLT, bne_self_eq_false, bT, eq_self, true_implies, false_implies, forall_const, if_true, if_false, Int.reduceToNat, Nat.reduceSub, Int.reduceLE, bV, Nat.reduceAdd, Nat.reduceLT, Nat.reduceLeDiff, Nat.reduceLeDiff, hx, oo, z1, z2, z3, za, zb, i3, i2, i1, i0, w0, w1, w2, w3, v0, v1, v2, o2, o1, o0, endK, rsC, rsV, resV]
  rw [num4]
  rw [be4]
theorem r_u32 {d : List UInt8} {H : AH} (hU : T_Uint32 C n_binary_bigEndian_Uint32) (hd : 4 ≤ d.length) : Runs C c_impl_u32 [.s d] H fun v H' => v = .i .i64 (num (d.take 4) 0 : Nat) ∧ Ext H H' := by
  unfold Runs c_impl_u32
  have h4 : (4 : Int) ≤ d.length := by omega
  have hb : Byt (H.new (.arr true 0 1 (encB (d.take 4)))) (.sl H.n 0 (d.take 4).length) (d.take 4) := by have := Mb.new2 (H := H) (l := d.take 4) rfl; exact this.sl
  have hk := hU (.ag []) (.sl H.n 0 (d.take 4).length) (d.take 4) _ rfl hb (by simp; omega)
  obtain ⟨a, b, c, e, hl⟩ : ∃ a b c e, d.take 4 = [a, b, c, e] := by
    match d, hd with
    | a :: b :: c :: e :: r, _ => exact ⟨a, b, c, e, rfl⟩
  have hn : num (d.take 4) 0 < 4294967296 := by
    rw [hl, num4]
    have l0 := a.toNat_lt; have l1 := b.toNat_lt; have l2 := c.toNat_lt; have l3 := e.toNat_lt
    omega
  have w : IntKind.i64.wrap ((num (d.take 4) 0 : Nat) : Int) = (num (d.take 4) 0 : Nat) := w64 (by omega) (by omega)
  simp -implicitDefEqProofs only [bU, reduceIte, Nat.reduceEqDiff, reduceCtorEq, implies_true, forall_const, eq_self, Nat.reduceAdd, Nat.reduceLT, bne_self_eq_false, bT, eq_self, true_implies, false_implies, forall_const, if_true, if_false, Int.reduceToNat, Nat.reduceSub, Int.reduceLE, lgAt, isRd, pv_ldC0, pv_ldX0, h4, Int.reduceToNat, Nat.sub_zero, hk, w, endK, rsC, rsV, resV]
  exact .new _ _
end
end Go.Vm
/- Data of records: the program's map of types. -/
namespace Go.Vm
set_option linter.unusedVariables false
set_option linter.unusedSimpArgs false
/-- The types of a map. -/
def bitTs (base : Nat) (b : UInt8) (j : Nat) : List Nat := if b.toNat / 2 ^ (7 - j) % 2 = 1 then [base + j] else []
def byteTs (base : Nat) (b : UInt8) (n : Nat) : List Nat := (List.range n).flatMap (bitTs base b)
def winTs (w : Nat) (r : List UInt8) (n : Nat) : List Nat := (List.range n).flatMap fun k => byteTs (256 * w + 8 * k) (r.getD k 0) 8
def mapTs (s : List UInt8) : List Nat := match s with
  | [] => []
  | [_] => []
  | w :: n :: r => winTs w.toNat r n.toNat ++ mapTs (r.drop n.toNat)
termination_by s.length
decreasing_by simp; omega
theorem byteTs_succ (base : Nat) (b : UInt8) (n : Nat) : byteTs base b (n + 1) = byteTs base b n ++ bitTs base b n := by simp [byteTs, List.range_succ]
theorem winTs_succ (w : Nat) (r : List UInt8) (n : Nat) : winTs w r (n + 1) = winTs w r n ++ byteTs (256 * w + 8 * n) (r.getD n 0) 8 := by simp [winTs, List.range_succ]
theorem byteTs_len (base : Nat) (b : UInt8) : ∀ n, (byteTs base b n).length ≤ n
  | 0 => by simp [byteTs]
  | n + 1 => by
    have := byteTs_len base b n
    rw [byteTs_succ, List.length_append]
    unfold bitTs
    split <;> simp <;> omega
theorem winTs_len (w : Nat) (r : List UInt8) : ∀ n, (winTs w r n).length ≤ 8 * n
  | 0 => by simp [winTs]
  | n + 1 => by
    have := winTs_len w r n
    have := byteTs_len (256 * w + 8 * n) (r.getD n 0) 8
    rw [winTs_succ, List.length_append]
    omega
theorem mapTs_at {s : List UInt8} (h : 2 ≤ s.length) : mapTs s = winTs (s.getD 0 0).toNat (s.drop 2) (s.getD 1 0).toNat ++ mapTs (s.drop ((s.getD 1 0).toNat + 2)) := by
  match s, h with
  | w :: n :: r, _ =>
    rw [mapTs]
    rfl
abbrev ints (l : List Nat) : List AV := l.map fun (n : Nat) => AV.i .i64 (n : Int)
def MapPost (s : List UInt8) (H : AH) (v : AV) (H' : AH) : Prop := Ext H H' ∧ if mapOk s (-1) then ∃ o, v = .tp [o, .i .i64 0] ∧ Mn H' 1 o (ints (mapTs s)) ∧ ∀ i, i ∈ idA o → H.n ≤ i else v = .tp [.ns, .i .i64 7]
def T_MapTypes (C : Tab) (f : Nat) : Prop := ∀ (s : List UInt8) (H : AH), s.length ≤ 1099511627776 → ∃ v H', C f [.s s] H = some (v, H') ∧ MapPost s H v H'
theorem lit_srcI {t g : Nat} {x : Int} {L : List Lv} {H : AH} : srcV ⟨⟨t, g, 0, [.i .i64 x]⟩ :: L, g + 1, H⟩ (.ll t g 1 1) = [AV.i .i64 x] ∧ srcC ⟨⟨t, g, 0, [.i .i64 x]⟩ :: L, g + 1, H⟩ 1 (.ll t g 1 1) := lit_src
theorem and_u8 {n : Nat} (h : n < 256) : bitw .and .u8 (n : Int) 1 = ((n % 2 : Nat) : Int) := by
  unfold bitw
  simp only
  rw [show IntKind.u8.bits = 8 from rfl, show (1 : Int) = ((1 : Nat) : Int) from rfl, BitVec.ofInt_natCast, BitVec.ofInt_natCast, BitVec.toNat_and, BitVec.toNat_ofNat, BitVec.toNat_ofNat, Nat.mod_eq_of_lt (by omega), Nat.mod_eq_of_lt (by omega), Nat.and_one_is_mod, IntKind.wrap_u8]
  omega
section
variable {C : Tab}
set_option maxHeartbeats 1000000 in
theorem r_MapTypes {s : List UInt8} {H : AH} (hs : s.length ≤ 1099511627776) : Runs C c_impl_MapTypes [.s s] H (MapPost s H) := by
  unfold Runs c_impl_MapTypes
  simp -implicitDefEqProofs only [bU, reduceIte, Nat.reduceEqDiff, reduceCtorEq, implies_true, forall_const, eq_self, Nat.reduceAdd, Nat.reduceLT, bne_self_eq_false, bT, eq_self, true_implies, false_implies, forall_const, if_true, if_false, Int.reduceToNat, Nat.reduceSub, Int.reduceLE]
  refine exec_loop (fun n e M => ∃ (i : Nat) (last : Int) (acc : List Nat) (o : AV) (H' : AH) (L : List Lv) (g : Nat), i ≤ s.length ∧ n = s.length - i ∧ look e 0 = .s s ∧ look e 4 = o ∧ look e 5 = .i .i64 last ∧ look e 6 = .i .i64 i ∧ M = ⟨L, g, H'⟩ ∧ acc.length ≤ 8 * i ∧ Mn H' 1 o (ints acc) ∧ Ext H H' ∧ (∀ j, j ∈ idA o → H.n ≤ j) ∧ mapOk s (-1) = mapOk (s.drop i) last ∧ (mapTs s = acc ++ mapTs (s.drop i))) ?_ (n := s.length)
    ⟨0, -1, [], .ns, H, _, _, by omega, by omega, rfl, rfl, rfl, rfl, rfl, by simp, .nil, .refl _, by simp [idA], rfl, rfl⟩
  rintro n e M ⟨i, last, acc, o, H', L, g, hi, rfl, q0, q4, q5, q6, rfl, hacc, hm, he, hid, hok, hts⟩
  have ho := hm.sl.out
  by_cases hlt : (i : Int) < s.length
  · have w2 : IntKind.i64.wrap ((i : Int) + 2) = ((i + 2 : Nat) : Int) := by rw [w64 (by omega) (by omega)]; rfl
    by_cases h2 : (s.length : Int) < ((i + 2 : Nat) : Int)
    · have hf : mapOk (s.drop i) last = false := by
        rw [mapOk_short (by rw [List.length_drop]; omega)]
        exact decide_eq_false fun h => by
          have := congrArg List.length h
          simp at this
          omega
      rw [hf] at hok
      simp -implicitDefEqProofs only [bU, reduceIte, Nat.reduceEqDiff, reduceCtorEq, implies_true, forall_const, eq_self, Nat.reduceAdd, Nat.reduceLT, bne_self_eq_false, bT, eq_self, true_implies, false_implies, forall_const, if_true, if_false, Int.reduceToNat, Nat.reduceSub, Int.reduceLE, q0, q4, q5, q6, hlt, w2, h2, endK, rsC, rsV, resV]
      exact ⟨he, by simp [hok]⟩
    · have hl2 : 2 ≤ (s.drop i).length := by simp; omega
      rw [mapOk_at hl2] at hok
      rw [mapTs_at hl2] at hts
      have p0 : (0 : Int) ≤ i := by omega
      have p1 : (0 : Int) ≤ ((i + 1 : Nat) : Int) := by omega
      have p2 : ((i + 1 : Nat) : Int) < s.length := by omega
      have w1 : IntKind.i64.wrap ((i : Int) + 1) = ((i + 1 : Nat) : Int) := by rw [w64 (by omega) (by omega)]; rfl
      simp only [getD_drop, Nat.add_zero, List.length_drop, List.drop_drop] at hok hts
      obtain ⟨w, hw⟩ : ∃ w, s.getD i 0 = w := ⟨_, rfl⟩
      obtain ⟨n, hn⟩ : ∃ n, s.getD (i + 1) 0 = n := ⟨_, rfl⟩
      simp only [hw, hn] at hok hts
      have hwb := w.toNat_lt
      have hnb := n.toNat_lt
      have ww := i64b w
      have wn := i64b n
      by_cases a1 : (w.toNat : Int) ≤ last
      · rw [if_pos (.inl a1)] at hok
        simp -implicitDefEqProofs only [bU, reduceIte, Nat.reduceEqDiff, reduceCtorEq, implies_true, forall_const, eq_self, Nat.reduceAdd, Nat.reduceLT, bne_self_eq_false, bT, eq_self, true_implies, false_implies, forall_const, if_true, if_false, Int.reduceToNat, Nat.reduceSub, Int.reduceLE, q0, q4, q5, q6, hlt, w1, w2, h2, p0, p1, p2, toNat_nat, hw, hn, ww, wn, a1, endK, rsC, rsV, resV]
        exact ⟨he, by simp [hok]⟩
      by_cases a2 : (n.toNat : Int) < 1
      · rw [if_pos (.inr (.inl (by omega)))] at hok
        simp -implicitDefEqProofs only [bU, reduceIte, Nat.reduceEqDiff, reduceCtorEq, implies_true, forall_const, eq_self, Nat.reduceAdd, Nat.reduceLT, bne_self_eq_false, bT, eq_self, true_implies, false_implies, forall_const, if_true, if_false, Int.reduceToNat, Nat.reduceSub, Int.reduceLE, q0, q4, q5, q6, hlt, w1, w2, h2, p0, p1, p2, toNat_nat, hw, hn, ww, wn, a1, a2, endK, rsC, rsV, resV]
        exact ⟨he, by simp [hok]⟩
      by_cases a3 : (32 : Int) < (n.toNat : Int)
      · rw [if_pos (.inr (.inr (.inl (by omega))))] at hok
        simp -implicitDefEqProofs only [bU, reduceIte, Nat.reduceEqDiff, reduceCtorEq, implies_true, forall_const, eq_self, Nat.reduceAdd, Nat.reduceLT, bne_self_eq_false, bT, eq_self, true_implies, false_implies, forall_const, if_true, if_false, Int.reduceToNat, Nat.reduceSub, Int.reduceLE, q0, q4, q5, q6, hlt, w1, w2, h2, p0, p1, p2, toNat_nat, hw, hn, ww, wn, a1, a2, a3, endK, rsC, rsV, resV]
        exact ⟨he, by simp [hok]⟩
      have w3 : IntKind.i64.wrap (((i + 2 : Nat) : Int) + (n.toNat : Int)) = ((i + 2 + n.toNat : Nat) : Int) := by rw [w64 (by omega) (by omega)]; omega
      by_cases a4 : (s.length : Int) < ((i + 2 + n.toNat : Nat) : Int)
      · rw [if_pos (.inr (.inr (.inr (.inl (by omega)))))] at hok
        simp -implicitDefEqProofs only [bU, reduceIte, Nat.reduceEqDiff, reduceCtorEq, implies_true, forall_const, eq_self, Nat.reduceAdd, Nat.reduceLT, bne_self_eq_false, bT, eq_self, true_implies, false_implies, forall_const, if_true, if_false, Int.reduceToNat, Nat.reduceSub, Int.reduceLE, q0, q4, q5, q6, hlt, w1, w2, w3, h2, p0, p1, p2, toNat_nat, hw, hn, ww, wn, a1, a2, a3, a4, endK, rsC, rsV, resV]
        exact ⟨he, by simp [hok]⟩
      have w4 : IntKind.i64.wrap (((i + 1 : Nat) : Int) + (n.toNat : Int)) = ((i + 1 + n.toNat : Nat) : Int) := by rw [w64 (by omega) (by omega)]; omega
      have p3 : (0 : Int) ≤ ((i + 1 + n.toNat : Nat) : Int) := by omega
      have p4 : ((i + 1 + n.toNat : Nat) : Int) < s.length := by omega
      rw [show i + (n.toNat + 1) = i + 1 + n.toNat by omega] at hok
      by_cases a5 : (((s.getD (i + 1 + n.toNat) 0).toNat : Nat) : Int) = 0
      · rw [if_pos (.inr (.inr (.inr (.inr (by omega)))))] at hok
        have a5' := eq_true a5
        simp -implicitDefEqProofs only [bU, reduceIte, Nat.reduceEqDiff, reduceCtorEq, implies_true, forall_const, eq_self, Nat.reduceAdd, Nat.reduceLT, bne_self_eq_false, bT, eq_self, true_implies, false_implies, forall_const, if_true, if_false, Int.reduceToNat, Nat.reduceSub, Int.reduceLE, q0, q4, q5, q6, hlt, w1, w2, w3, w4, h2, p0, p1, p2, p3, p4, toNat_nat, hw, hn, ww, wn, a1, a2, a3, a4, a5', endK, rsC, rsV, resV]
        exact ⟨he, by simp [hok]⟩
      rw [if_neg (by omega), show i + (n.toNat + 2) = i + 2 + n.toNat by omega] at hok
      rw [show i + (n.toNat + 2) = i + 2 + n.toNat by omega] at hts
      simp -implicitDefEqProofs only [bU, reduceIte, Nat.reduceEqDiff, reduceCtorEq, implies_true, forall_const, eq_self, Nat.reduceAdd, Nat.reduceLT, bne_self_eq_false, bT, eq_self, true_implies, false_implies, forall_const, if_true, if_false, Int.reduceToNat, Nat.reduceSub, Int.reduceLE, q0, q4, q5, q6, hlt, w1, w2, w3, w4, h2, p0, p1, p2, p3, p4, toNat_nat, hw, hn, ww, wn, a1, a2, a3, a4, a5]
      refine exec_loop (fun m e M => ∃ (k : Nat) (acc' : List Nat) (o : AV) (H' : AH) (L : List Lv) (g : Nat), k ≤ n.toNat ∧ m = n.toNat - k ∧ look e 0 = .s s ∧ look e 4 = o ∧ look e 5 = .i .i64 w.toNat ∧ look e 6 = .i .i64 i ∧ look e 7 = .i .i64 w.toNat ∧ look e 8 = .i .i64 n.toNat ∧ look e 9 = .i .i64 k ∧ M = ⟨L, g, H'⟩ ∧ acc' = acc ++ winTs w.toNat (s.drop (i + 2)) k ∧ Mn H' 1 o (ints acc') ∧ Ext H H' ∧ (∀ j, j ∈ idA o → H.n ≤ j)) ?_ (n := n.toNat)
        ⟨0, acc, o, H', _, _, by omega, by omega, rfl, rfl, rfl, rfl, rfl, rfl, rfl, rfl, by simp [winTs], hm, he, hid⟩
      clear hm he hid ho q0 q4 q5 q6
      rintro m e M ⟨k, acc', o, H', L, g, hk, rfl, q0, q4, q5, q6, q7, q8, q9, rfl, hac, hm, he, hid⟩
      have hwl := winTs_len w.toNat (s.drop (i + 2)) k
      by_cases hkn : (k : Int) < n.toNat
      · simp -implicitDefEqProofs only [bU, reduceIte, Nat.reduceEqDiff, reduceCtorEq, implies_true, forall_const, eq_self, Nat.reduceAdd, Nat.reduceLT, bne_self_eq_false, bT, eq_self, true_implies, false_implies, forall_const, if_true, if_false, Int.reduceToNat, Nat.reduceSub, Int.reduceLE, q0, q4, q5, q6, q7, q8, q9, hkn]
        refine exec_loop (fun m e M => ∃ (j : Nat) (o : AV) (H' : AH) (L : List Lv) (g : Nat), j ≤ 8 ∧ m = 8 - j ∧ look e 0 = .s s ∧ look e 4 = o ∧ look e 5 = .i .i64 w.toNat ∧ look e 6 = .i .i64 i ∧ look e 7 = .i .i64 w.toNat ∧ look e 8 = .i .i64 n.toNat ∧ look e 9 = .i .i64 k ∧ look e 10 = .i .i64 j ∧ M = ⟨L, g, H'⟩ ∧ Mn H' 1 o (ints (acc' ++ byteTs (256 * w.toNat + 8 * k) (s.getD (i + 2 + k) 0) j)) ∧ Ext H H' ∧ (∀ j, j ∈ idA o → H.n ≤ j)) ?_ (n := 8)
          ⟨0, o, H', _, _, by omega, by omega, rfl, rfl, rfl, rfl, rfl, rfl, rfl, rfl, rfl, by simpa [byteTs] using hm, he, hid⟩
        clear hm he hid q0 q4 q5 q6 q7 q8 q9
        rintro m e M ⟨j, o, H', L, g, hj, rfl, q0, q4, q5, q6, q7, q8, q9, q10, rfl, hm, he, hid⟩
        have hbl := byteTs_len (256 * w.toNat + 8 * k) (s.getD (i + 2 + k) 0) j
        by_cases hj8 : (j : Int) < 8
        · have u1 : IntKind.i64.wrap (((i + 2 : Nat) : Int) + (k : Int)) = ((i + 2 + k : Nat) : Int) := by rw [w64 (by omega) (by omega)]; omega
          have u2 : (0 : Int) ≤ ((i + 2 + k : Nat) : Int) := by omega
          have u3 : ((i + 2 + k : Nat) : Int) < s.length := by omega
          have u4 : IntKind.i64.wrap (7 - (j : Int)) = ((7 - j : Nat) : Int) := by rw [w64 (by omega) (by omega)]; omega
          have u5 : (0 : Int) ≤ ((7 - j : Nat) : Int) := by omega
          have hb := (s.getD (i + 2 + k) 0).toNat_lt
          have u6 : ((s.getD (i + 2 + k) 0).toNat : Int).fdiv (2 ^ (min (7 - j) IntKind.u8.bits)) = (((s.getD (i + 2 + k) 0).toNat / 2 ^ (7 - j) : Nat) : Int) := by
            rw [show IntKind.u8.bits = 8 from rfl, Nat.min_eq_left (by omega)]
            exact fdiv_nat _ _
          have hdl : (s.getD (i + 2 + k) 0).toNat / 2 ^ (7 - j) ≤ (s.getD (i + 2 + k) 0).toNat := Nat.div_le_self _ _
          have u7 := and_u8 (n := (s.getD (i + 2 + k) 0).toNat / 2 ^ (7 - j)) (by omega)
          have u8 : IntKind.i64.wrap ((j : Int) + 1) = ((j + 1 : Nat) : Int) := by rw [w64 (by omega) (by omega)]; rfl
          by_cases hbit : (((s.getD (i + 2 + k) 0).toNat / 2 ^ (7 - j) % 2 : Nat) : Int) = 1
          · have hbit' := eq_true hbit
            have v1 : IntKind.i64.wrap (256 * (w.toNat : Int)) = ((256 * w.toNat : Nat) : Int) := by rw [w64 (by omega) (by omega)]; omega
            have v2 : IntKind.i64.wrap (8 * (k : Int)) = ((8 * k : Nat) : Int) := by rw [w64 (by omega) (by omega)]; omega
            have v3 : IntKind.i64.wrap (((256 * w.toNat : Nat) : Int) + ((8 * k : Nat) : Int)) = ((256 * w.toNat + 8 * k : Nat) : Int) := by rw [w64 (by omega) (by omega)]; omega
            have v4 : IntKind.i64.wrap (((256 * w.toNat + 8 * k : Nat) : Int) + (j : Int)) = ((256 * w.toNat + 8 * k + j : Nat) : Int) := by rw [w64 (by omega) (by omega)]; omega
            obtain ⟨p1', o', H2, p2', p3', p4', p5', p6', p7', -⟩ := Mn.ap (by' := 8) hm (lit_srcI (t := 87) (g := g) (x := ((256 * w.toNat + 8 * k + j : Nat) : Int)) (L := dropL (keepL [0, 4, 5, 6, 7, 8, 9, 10] L) 87) (H := H')) (by rw [List.length_map, List.length_append, hac, List.length_append]; simp only [List.length_singleton]; omega)
            simp -implicitDefEqProofs only [bU, reduceIte, Nat.reduceEqDiff, reduceCtorEq, implies_true, forall_const, eq_self, Nat.reduceAdd, Nat.reduceLT, bne_self_eq_false, bT, eq_self, true_implies, false_implies, forall_const, if_true, if_false, Int.reduceToNat, Nat.reduceSub, Int.reduceLE, q0, q4, q5, q6, q7, q8, q9, q10, hj8, w2, u1, u2, u3, u4, u5, u6, u7, u8, toNat_nat, hbit', v1, v2, v3, v4, fillEC, fillE, List.replicate, List.set]
            simp -implicitDefEqProofs only [bU, reduceIte, Nat.reduceEqDiff, reduceCtorEq, implies_true, forall_const, eq_self, Nat.reduceAdd, Nat.reduceLT, bne_self_eq_false, p1', p2', p3', u8]
            refine ⟨8 - (j + 1), by omega, j + 1, o', H2, _, _, by omega, rfl, rfl, rfl, rfl, ?_, he.put hid p5' p6', fun x hx => ?_⟩
            · rw [byteTs_succ, bitTs, if_pos (by omega), ← List.append_assoc, ints, List.map_append]
              exact p4'
            · rcases p7' x hx with h | h
              · exact hid x h
              · have := he.n; omega
          · simp -implicitDefEqProofs only [bU, reduceIte, Nat.reduceEqDiff, reduceCtorEq, implies_true, forall_const, eq_self, Nat.reduceAdd, Nat.reduceLT, bne_self_eq_false, bT, eq_self, true_implies, false_implies, forall_const, if_true, if_false, Int.reduceToNat, Nat.reduceSub, Int.reduceLE, q0, q4, q5, q6, q7, q8, q9, q10, hj8, w2, u1, u2, u3, u4, u5, u6, u7, u8, toNat_nat, hbit]
            exact ⟨8 - (j + 1), by omega, j + 1, o, H', _, _, by omega, rfl, rfl, rfl, rfl, by rw [byteTs_succ, bitTs, if_neg (by omega), List.append_nil]; exact hm, he, hid⟩
        · have hje : j = 8 := by omega
          subst hje
          have w9 : IntKind.i64.wrap ((k : Int) + 1) = ((k + 1 : Nat) : Int) := by rw [w64 (by omega) (by omega)]; rfl
          simp -implicitDefEqProofs only [bU, reduceIte, Nat.reduceEqDiff, reduceCtorEq, implies_true, forall_const, eq_self, Nat.reduceAdd, Nat.reduceLT, bne_self_eq_false, bT, eq_self, true_implies, false_implies, forall_const, if_true, if_false, Int.reduceToNat, Nat.reduceSub, Int.reduceLE, q0, q4, q5, q6, q7, q8, q9, q10, hj8, w9]
          refine ⟨n.toNat - (k + 1), by omega, k + 1, _, o, H', _, _, by omega, rfl, rfl, rfl, rfl, ?_, hm, he, hid⟩
          rw [winTs_succ, hac, List.append_assoc, getD_drop]
      · have hke : k = n.toNat := by omega
        subst hke
        have w5 : IntKind.i64.wrap (2 + (n.toNat : Int)) = ((2 + n.toNat : Nat) : Int) := by rw [w64 (by omega) (by omega)]; omega
        have w6 : IntKind.i64.wrap ((i : Int) + ((2 + n.toNat : Nat) : Int)) = ((i + 2 + n.toNat : Nat) : Int) := by rw [w64 (by omega) (by omega)]; omega
        simp -implicitDefEqProofs only [bU, reduceIte, Nat.reduceEqDiff, reduceCtorEq, implies_true, forall_const, eq_self, Nat.reduceAdd, Nat.reduceLT, bne_self_eq_false, bT, eq_self, true_implies, false_implies, forall_const, if_true, if_false, Int.reduceToNat, Nat.reduceSub, Int.reduceLE, q0, q4, q5, q6, q7, q8, q9, hkn, w5, w6]
        refine ⟨s.length - (i + 2 + n.toNat), by omega, i + 2 + n.toNat, _, acc', o, H', _, _, by omega, rfl, rfl, rfl, rfl, rfl, ?_, hm, he, hid, ?_, ?_⟩
        · rw [hac, List.length_append]; omega
        · exact hok
        · rw [hts, hac, List.append_assoc]
  · have hil : i = s.length := by omega
    rw [hil, List.drop_length] at hok hts
    rw [show mapOk [] last = true by rw [mapOk]] at hok
    rw [show mapTs [] = [] by rw [mapTs], List.append_nil] at hts
    simp -implicitDefEqProofs only [bU, reduceIte, Nat.reduceEqDiff, reduceCtorEq, implies_true, forall_const, eq_self, Nat.reduceAdd, Nat.reduceLT, bne_self_eq_false, bT, eq_self, true_implies, false_implies, forall_const, if_true, if_false, Int.reduceToNat, Nat.reduceSub, Int.reduceLE, q0, q4, q5, q6, hlt, ho, endK, rsC, rsV, resV]
    refine ⟨he, ?_⟩
    rw [if_pos hok, hts]
    exact ⟨o, rfl, hm, hid⟩
end
end Go.Vm
/- Data of records: the program's reader of forms. -/
namespace Go.Vm
set_option linter.unusedVariables false
set_option linter.unusedSimpArgs false
/-- An object of one cell. -/
theorem cell_ld {H : AH} {id : Nat} {rw : Bool} {v : AV} (h : H.at' id = .arr rw 0 1 [v]) (hv : v.cells = [v]) : (∀ (L : List Lv) (g : Nat), ldC ⟨L, g, H⟩ none (.pv id 0)) ∧ ∀ (L : List Lv) (g : Nat), ldX ⟨L, g, H⟩ none (.pv id 0) = v := by
  refine ⟨fun L g => ?_, fun L g => ?_⟩
  · simp only [ldC, h]
    exact .inr ⟨trivial, by simp [partFits, flat, hv]⟩
  · show ldV ⟨L, g, H⟩ none (.pv id 0) = _
    simp only [ldV, h, partOf, flat, hv]
    rfl
theorem cell_st {H : AH} {id : Nat} {v w : AV} (h : H.at' id = .arr true 0 1 [v]) (hv : v.cells = [v]) (hw : w.cells = [w]) (ha : ∀ cs, v ≠ .ag cs) : (∀ (L : List Lv) (g : Nat), stC ⟨L, g, H⟩ w (.pv id 0)) ∧ ∀ (L : List Lv) (g : Nat), stM ⟨L, g, H⟩ w (.pv id 0) = ⟨L, g, H.set id (.arr true 0 1 [w])⟩ := by
  refine ⟨fun L g => ?_, fun L g => ?_⟩
  · simp only [stC, h, hv, hw]
    exact ⟨trivial, trivial, rfl, Nat.le_refl _⟩
  · simp only [stM, h]
    rw [setEl_one hw ha]
def eSp : Enc (Nat × Nat) := ⟨2, fun p => [.i .i64 (p.1 : Nat), .i .i64 (p.2 : Nat)], fun _ => rfl⟩
def T_rest (C : Tab) (f : Nat) : Prop := ∀ (i3 i9 at' : Nat) (d : List UInt8) (H : AH), H.at' i3 = .arr true 0 1 [.s d] → H.at' i9 = .arr true 0 1 [.i .i64 (at' : Nat)] → at' ≤ d.length → C f [.pv i3 0, .pv i9 0] H = some (.s (d.drop at'), H)
def alnP : S := sAt c_impl_parsed.s [1, 1, 1, 1, 1, 1, 0, 1, 2, 2, 1, 1, 2, 1, 1, 0, 1, 2, 1, 4, 1, 4, 1, 4, 1, 4, 1, 3, 1, 1, 1, 3, 1, 1, 2, 2, 1, 1, 0, 2, 1, 0]
def swP : S := sAt c_impl_parsed.s [1, 1, 1, 1, 1, 1, 0, 1, 2, 2, 1, 1, 2, 1, 1, 0, 1]
/-- The state of the reader. -/
structure PS (H0 H : AH) (d : List UInt8) (at' : Nat) (o : AV) (sp : List (Nat × Nat)) : Prop where
  d3 : H.at' H0.n = .arr true 0 1 [.s d]
  a9 : H.at' (H0.n + 1) = .arr true 0 1 [.i .i64 (at' : Nat)]
  m : Mx H eSp o sp
  e : Ext H0 H
  i : ∀ j, j ∈ idA o → H0.n + 1 < j
  n : H0.n + 1 < H.n
section
variable {C : Tab}
theorem r_rest {i3 i9 at' : Nat} {d : List UInt8} {H : AH} (h3 : H.at' i3 = .arr true 0 1 [.s d]) (h9 : H.at' i9 = .arr true 0 1 [.i .i64 (at' : Nat)]) (hd : at' ≤ d.length) : Runs C c_impl_parsed_1 [.pv i3 0, .pv i9 0] H fun v H' => H' = H ∧ v = .s (d.drop at') := by
  unfold Runs c_impl_parsed_1
  obtain ⟨a1, a2⟩ := cell_ld h3 rfl
  obtain ⟨b1, b2⟩ := cell_ld h9 rfl
  have z1 : (0 : Int) ≤ at' := by omega
  have z2 : (at' : Int) ≤ d.length := by omega
  have e : (d.drop at').take (d.length - at') = d.drop at' := List.take_of_length_le (by simp)
  simp -implicitDefEqProofs only [bU, reduceIte, Nat.reduceEqDiff, reduceCtorEq, implies_true, forall_const, eq_self, Nat.reduceAdd, Nat.reduceLT, bne_self_eq_false, bT, eq_self, true_implies, false_implies, forall_const, if_true, if_false, Int.reduceToNat, Nat.reduceSub, Int.reduceLE, a1, a2, b1, b2, z1, z2, e, toNat_nat, Int.le_refl, endK, rsC, rsV, resV]
theorem PS.ext {H0 H H' : AH} {d : List UInt8} {at' : Nat} {o : AV} {sp : List (Nat × Nat)} (h : PS H0 H d at' o sp) (he : Ext H H') : PS H0 H' d at' o sp :=
  ⟨(he.at' _ (by have := h.n; omega)).trans h.d3, (he.at' _ h.n).trans h.a9, Mn.ext h.m he, h.e.trans he, h.i, Nat.lt_of_lt_of_le h.n he.n⟩
set_option maxHeartbeats 4000000 in
theorem alnP_run {c : UInt8} {e : Env} {M : Mem} {κ : Kont} (q15 : look e 15 = .i .u8 c.toNat) (hκ : ∀ e', (∀ t, t ∈ [3, 8, 9, 10, 13, 29, 92, 93, 94] → look e' t = look e t) → look e' 120 = .b (!alnum c) → κ .nx e' M) : exec C alnP e M κ := by
  simp only [alnP, c_impl_parsed, sAt]
  have ha : alnum c = ((decide ((48 : Int) ≤ c.toNat) && decide ((c.toNat : Int) ≤ 57)) || (decide ((97 : Int) ≤ c.toNat) && decide ((c.toNat : Int) ≤ 122)) || (decide ((65 : Int) ≤ c.toNat) && decide ((c.toNat : Int) ≤ 90))) := by
    unfold alnum
    rw [Bool.eq_iff_iff]
    simp only [Bool.or_eq_true, Bool.and_eq_true, decide_eq_true_eq]
    omega
  rw [ha] at hκ
  have hl : ∀ e', (∀ t, t ∈ [3, 8, 9, 10, 13, 29, 92, 93, 94] → look e' t = look e t) ↔ (look e' 3 = look e 3 ∧ look e' 8 = look e 8 ∧ look e' 9 = look e 9 ∧ look e' 10 = look e 10 ∧ look e' 13 = look e 13 ∧ look e' 29 = look e 29 ∧ look e' 92 = look e 92 ∧ look e' 93 = look e 93 ∧ look e' 94 = look e 94) := fun e' => by simp
  simp only [hl] at hκ
  by_cases h1 : (48 : Int) ≤ c.toNat <;> by_cases h2 : (c.toNat : Int) ≤ 57 <;> by_cases h3 : (97 : Int) ≤ c.toNat <;> by_cases h4 : (c.toNat : Int) ≤ 122 <;> by_cases h5 : (65 : Int) ≤ c.toNat <;> by_cases h6 : (c.toNat : Int) ≤ 90 <;>
  first
  | (exfalso; omega)
  | (simp -implicitDefEqProofs only [h1, h2, h3, h4, h5, h6, decide_true, decide_false, Bool.false_and, Bool.and_false, Bool.or_false, Bool.or_true, Bool.false_or, Bool.true_or, Bool.and_self, Bool.not_true, Bool.not_false] at hκ
     simp -implicitDefEqProofs only [bU, reduceIte, Nat.reduceEqDiff, reduceCtorEq, implies_true, forall_const, eq_self, Nat.reduceAdd, Nat.reduceLT, bne_self_eq_false, bT, eq_self, true_implies, false_implies, forall_const, if_true, if_false, Int.reduceToNat, Nat.reduceSub, Int.reduceLE, q15, h1, h2, h3, h4, h5, h6]
     exact hκ _ ⟨rfl, rfl, rfl, rfl, rfl, rfl, rfl, rfl, rfl⟩ rfl)
end
end Go.Vm
/- Data of records: one letter of a form, read by the program. -/
namespace Go.Vm
set_option linter.unusedVariables false
set_option linter.unusedSimpArgs false
theorem lit_srcP {t g : Nat} {x : Nat × Nat} {L : List Lv} {H : AH} : srcV ⟨⟨t, g, 0, [.ag [.i .i64 (x.1 : Nat), .i .i64 (x.2 : Nat)]]⟩ :: L, g + 1, H⟩ (.ll t g 2 1) = [eSp.v x] ∧ srcC ⟨⟨t, g, 0, [.ag [.i .i64 (x.1 : Nat), .i .i64 (x.2 : Nat)]]⟩ :: L, g + 1, H⟩ 2 (.ll t g 2 1) := by
  simp [srcV, srcC, Mem.getL, Mem.hasL, lookL, eSp, Enc.v]
theorem all_idx {p : UInt8 → Bool} {q : List UInt8} (h : ∀ j, j < q.length → p (q.getD j 0) = true) : q.all p = true := by
  rw [List.all_eq_true]
  intro x hx
  obtain ⟨i, hi, rfl⟩ := List.getElem_of_mem hx
  have := h i hi
  simpa [List.getD, List.getElem?_eq_getElem hi] using this
theorem not_idx {p : UInt8 → Bool} {q : List UInt8} {j : Nat} (hj : j < q.length) (h : p (q.getD j 0) = false) : q.all p = false := by
  rw [← Bool.not_eq_true, List.all_eq_true]
  intro hh
  have := hh (q.getD j 0) (by simp [List.getD, List.getElem?_eq_getElem hj])
  rw [this] at h
  cases h
theorem tGo_at {s : List UInt8} {i : Nat} (hi : i < s.length) : tGo (s.drop i) = 1 + (s.getD i 0).toNat + tGo (s.drop (i + 1 + (s.getD i 0).toNat)) := by
  have e : s.getD i 0 = s[i] := by simp [List.getD, List.getElem?_eq_getElem hi]
  rw [List.drop_eq_getElem_cons hi, tGo, e, List.drop_drop]
section
variable {C : Tab}
set_option maxHeartbeats 4000000 in
theorem swP_run {f : UInt8} {d : List UInt8} {at' : Nat} {o : AV} {sp : List (Nat × Nat)} {e : Env} {L : List Lv} {g : Nat} {H0 H : AH} {κ : Kont} (hR : T_rest C n_impl_parsed_1) (hN : T_nmI C n_impl_nameAt) (hM : T_MapTypes C n_impl_MapTypes)
    (hf : f ∈ ([49, 50, 52, 103, 113, 110, 116, 99, 84, 109, 42] : List UInt8)) (q3 : look e 3 = .pv H0.n 0) (q8 : look e 8 = o) (q9 : look e 9 = .pv (H0.n + 1) 0) (q10 : look e 10 = .fn n_impl_parsed_1 [.pv H0.n 0, .pv (H0.n + 1) 0])
    (q12 : look e 12 = .i .i32 f.toNat) (q13 : look e 13 = .i .i64 (-1)) (q33 : look e 33 = .i .i32 f.toNat) (hd : d.length ≤ 1099511627776) (hp : at' ≤ d.length) (hsp : sp.length ≤ 1000) (hS : PS H0 H d at' o sp)
    (hκ1 : ∀ e' L' g' H2 o' n, (look e' 3 = look e 3 ∧ look e' 9 = look e 9 ∧ look e' 10 = look e 10 ∧ look e' 29 = look e 29) → look e' 8 = o' → look e' 13 = .i .i64 ((n : Nat) : Int) → keepL [3, 8, 9, 10, 29] L' = keepL [3, 8, 9, 10, 29] L → ilen f (d.drop at') = some n → PS H0 H2 d at' o' (if f = 110 then sp ++ [(at', at' + n)] else sp) → κ .nx e' ⟨L', g', H2⟩)
    (hκ2 : ∀ e' L' g' H2, look e' 4 = .ns → look e' 5 = .b false → Ext H0 H2 → (ilen f (d.drop at') = none ∨ ∃ n, ilen f (d.drop at') = some n ∧ d.length - at' < n) → κ .rt e' ⟨L', g', H2⟩) : exec C swP e ⟨L, g, H⟩ κ := by
  obtain ⟨a1, a2⟩ := cell_ld hS.a9 rfl
  obtain ⟨b1, b2⟩ := cell_ld hS.d3 rfl
  have hrl : (d.drop at').length = d.length - at' := List.length_drop
  have hfn : (∃ f' cs, AV.fn n_impl_parsed_1 [.pv H0.n 0, .pv (H0.n + 1) 0] = AV.fn f' cs) := ⟨_, _, rfl⟩
  have kR := hR _ _ _ _ _ hS.d3 hS.a9 hp
  have hnn : ∀ l : List AV, [] ++ l = l := fun _ => rfl
  simp only [List.mem_cons, List.not_mem_nil, or_false] at hf
  rcases hf with rfl | rfl | rfl | rfl | rfl | rfl | rfl | rfl | rfl | rfl | rfl
  · have c0 : ((49 : UInt8).toNat : Int) = 49 := rfl
    rw [c0] at q33
    simp only [swP, c_impl_parsed, sAt]
    simp -implicitDefEqProofs only [bU, reduceIte, Nat.reduceEqDiff, reduceCtorEq, implies_true, forall_const, eq_self, Nat.reduceAdd, Nat.reduceLT, bne_self_eq_false, bT, eq_self, true_implies, false_implies, forall_const, if_true, if_false, Int.reduceToNat, Nat.reduceSub, Int.reduceLE, q33, Int.reduceEq]
    exact hκ1 _ _ _ _ o 1 ⟨rfl, rfl, rfl, rfl⟩ q8 rfl rfl rfl hS
  · have c0 : ((50 : UInt8).toNat : Int) = 50 := rfl
    rw [c0] at q33
    simp only [swP, c_impl_parsed, sAt]
    simp -implicitDefEqProofs only [bU, reduceIte, Nat.reduceEqDiff, reduceCtorEq, implies_true, forall_const, eq_self, Nat.reduceAdd, Nat.reduceLT, bne_self_eq_false, bT, eq_self, true_implies, false_implies, forall_const, if_true, if_false, Int.reduceToNat, Nat.reduceSub, Int.reduceLE, q33, Int.reduceEq]
    exact hκ1 _ _ _ _ o 2 ⟨rfl, rfl, rfl, rfl⟩ q8 rfl rfl rfl hS
  · have c0 : ((52 : UInt8).toNat : Int) = 52 := rfl
    rw [c0] at q33
    simp only [swP, c_impl_parsed, sAt]
    simp -implicitDefEqProofs only [bU, reduceIte, Nat.reduceEqDiff, reduceCtorEq, implies_true, forall_const, eq_self, Nat.reduceAdd, Nat.reduceLT, bne_self_eq_false, bT, eq_self, true_implies, false_implies, forall_const, if_true, if_false, Int.reduceToNat, Nat.reduceSub, Int.reduceLE, q33, Int.reduceEq]
    exact hκ1 _ _ _ _ o 4 ⟨rfl, rfl, rfl, rfl⟩ q8 rfl rfl rfl hS
  · have c0 : ((103 : UInt8).toNat : Int) = 103 := rfl
    rw [c0] at q33
    simp only [swP, c_impl_parsed, sAt]
    simp -implicitDefEqProofs only [bU, reduceIte, Nat.reduceEqDiff, reduceCtorEq, implies_true, forall_const, eq_self, Nat.reduceAdd, Nat.reduceLT, bne_self_eq_false, bT, eq_self, true_implies, false_implies, forall_const, if_true, if_false, Int.reduceToNat, Nat.reduceSub, Int.reduceLE, q33, Int.reduceEq]
    exact hκ1 _ _ _ _ o 4 ⟨rfl, rfl, rfl, rfl⟩ q8 rfl rfl rfl hS
  · have c0 : ((113 : UInt8).toNat : Int) = 113 := rfl
    rw [c0] at q33
    simp only [swP, c_impl_parsed, sAt]
    simp -implicitDefEqProofs only [bU, reduceIte, Nat.reduceEqDiff, reduceCtorEq, implies_true, forall_const, eq_self, Nat.reduceAdd, Nat.reduceLT, bne_self_eq_false, bT, eq_self, true_implies, false_implies, forall_const, if_true, if_false, Int.reduceToNat, Nat.reduceSub, Int.reduceLE, q33, Int.reduceEq]
    exact hκ1 _ _ _ _ o 4 ⟨rfl, rfl, rfl, rfl⟩ q8 rfl rfl rfl hS
  · have c0 : ((110 : UInt8).toNat : Int) = 110 := rfl
    rw [c0] at q33
    have kN := fun H => hN (d.drop at') H (by omega)
    have e1 : ilen 110 (d.drop at') = if nmAt (d.drop at') = 0 then none else some (nmAt (d.drop at')) := rfl
    have hle := nmAt_le (d.drop at')
    simp only [swP, c_impl_parsed, sAt]
    by_cases h0 : nmAt (d.drop at') = 0
    · have h0' : ((nmAt (d.drop at') : Nat) : Int) = 0 := by omega
      simp -implicitDefEqProofs only [bU, reduceIte, Nat.reduceEqDiff, reduceCtorEq, implies_true, forall_const, eq_self, Nat.reduceAdd, Nat.reduceLT, bne_self_eq_false, bT, eq_self, true_implies, false_implies, forall_const, if_true, if_false, Int.reduceToNat, Nat.reduceSub, Int.reduceLE, q10, q33, Int.reduceEq, hfn, hnn, kR, kN, h0']
      exact hκ2 _ _ _ _ rfl rfl hS.e (.inl (by rw [e1, if_pos h0]))
    · have h0' : ¬ ((nmAt (d.drop at') : Nat) : Int) = 0 := by omega
      have w1 : IntKind.i64.wrap ((at' : Int) + ((nmAt (d.drop at') : Nat) : Int)) = ((at' + nmAt (d.drop at') : Nat) : Int) := by rw [w64 (by omega) (by omega)]; rfl
      have ho := (Mn.sl hS.m).out
      obtain ⟨p1, o', H2, p2, p3, p4, p5, p6, p7, -⟩ := Mn.ap (by' := 16) hS.m (lit_srcP (t := 55) (g := g) (x := (at', at' + nmAt (d.drop at'))) (L := dropL L 55) (H := H)) (by simp; omega)
      simp only [show eSp.z = 2 from rfl] at p1 p3
      simp -implicitDefEqProofs only [bU, reduceIte, Nat.reduceEqDiff, reduceCtorEq, implies_true, forall_const, eq_self, Nat.reduceAdd, Nat.reduceLT, bne_self_eq_false, bT, eq_self, true_implies, false_implies, forall_const, if_true, if_false, Int.reduceToNat, Nat.reduceSub, Int.reduceLE, bV, Nat.reduceAdd, Nat.reduceLT, Nat.reduceLeDiff, Nat.reduceLeDiff, q8, q9, q10, q33, Int.reduceEq, hfn, hnn, kR, kN, h0', a1, a2, w1, fillEC, fillE, List.replicate, List.set]
      simp -implicitDefEqProofs only [bU, reduceIte, Nat.reduceEqDiff, reduceCtorEq, implies_true, forall_const, eq_self, Nat.reduceAdd, Nat.reduceLT, bne_self_eq_false, p1, p2, p3]
      refine hκ1 _ _ _ _ o' (nmAt (d.drop at')) ⟨rfl, rfl, rfl, rfl⟩ rfl rfl ?_ (by rw [e1, if_neg h0]) ?_
      · rw [keep_new rfl, keep_drop rfl]
      · rw [if_pos rfl]
        have he2 : ∀ j, j ≤ H0.n + 1 → H2.at' j = H.at' j := fun j hj => p6 j (by have := hS.n; omega) fun hh => by have := hS.i j hh; omega
        refine ⟨(he2 _ (by omega)).trans hS.d3, (he2 _ (by omega)).trans hS.a9, ?_, hS.e.put (fun j hj => by have := hS.i j hj; omega) p5 p6, fun j hj => ?_, Nat.lt_of_lt_of_le hS.n p5⟩
        · show Mn H2 eSp.z o' _
          rw [List.map_append]; exact p4
        · rcases p7 j hj with h | h
          · exact hS.i j h
          · have := hS.n; omega
  · have c0 : ((116 : UInt8).toNat : Int) = 116 := rfl
    rw [c0] at q33 q12
    have e1 : ilen 116 (d.drop at') = if (d.drop at') = [] then none else some (((d.drop at').getD 0 0).toNat + 1) := rfl
    simp only [swP, c_impl_parsed, sAt]
    by_cases h0 : (d.length : Int) ≤ at'
    · simp -implicitDefEqProofs only [bU, reduceIte, Nat.reduceEqDiff, reduceCtorEq, implies_true, forall_const, eq_self, Nat.reduceAdd, Nat.reduceLT, bne_self_eq_false, bT, eq_self, true_implies, false_implies, forall_const, if_true, if_false, Int.reduceToNat, Nat.reduceSub, Int.reduceLE, q3, q9, q33, Int.reduceEq, a1, a2, b1, b2, h0]
      exact hκ2 _ _ _ _ rfl rfl hS.e (.inl (by rw [e1, if_pos (List.drop_of_length_le (by omega))]))
    · have z1 : (0 : Int) ≤ at' := by omega
      have z2 : (at' : Int) < d.length := by omega
      have hb := (d.getD at' 0).toNat_lt
      have w0 := i64b (d.getD at' 0)
      have w1 : IntKind.i64.wrap (1 + ((d.getD at' 0).toNat : Int)) = (((d.getD at' 0).toNat + 1 : Nat) : Int) := by rw [w64 (by omega) (by omega)]; omega
      simp -implicitDefEqProofs only [bU, reduceIte, Nat.reduceEqDiff, reduceCtorEq, implies_true, forall_const, eq_self, Nat.reduceAdd, Nat.reduceLT, bne_self_eq_false, bT, eq_self, true_implies, false_implies, forall_const, if_true, if_false, Int.reduceToNat, Nat.reduceSub, Int.reduceLE, q3, q9, q12, q33, Int.reduceEq, a1, a2, b1, b2, h0, z1, z2, w0, w1, toNat_nat]
      refine hκ1 _ _ _ _ o _ ⟨rfl, rfl, rfl, rfl⟩ q8 rfl rfl ?_ hS
      rw [e1, if_neg (fun hh => by have := congrArg List.length hh; simp at this; omega)]
      simp only [getD_drop, Nat.add_zero]
  · have c0 : ((99 : UInt8).toNat : Int) = 99 := rfl
    rw [c0] at q33 q12
    have e1 : ilen 99 (d.drop at') = if (d.drop at') = [] ∨ ((d.drop at').getD 0 0).toNat + 1 < 2 ∨ 16 < ((d.drop at').getD 0 0).toNat + 1 ∨ (d.drop at').length < ((d.drop at').getD 0 0).toNat + 1 ∨ ((((d.drop at').drop 1).take ((d.drop at').getD 0 0).toNat).all alnum) = false then none else some (((d.drop at').getD 0 0).toNat + 1) := rfl
    simp only [getD_drop, Nat.add_zero, hrl, List.drop_drop] at e1
    obtain ⟨B, hB, hs⟩ : ∃ B, B = sAt swP [2, 1, 4, 1, 4, 1, 4, 1, 4, 1, 3, 1, 1, 1, 3, 1, 1, 2, 2, 1, 1, 0, 2, 1, 0] ∧ swP = sPut swP [2, 1, 4, 1, 4, 1, 4, 1, 4, 1, 3, 1, 1, 1, 3, 1, 1, 2, 2, 1, 1, 0, 2, 1, 0] B := ⟨_, rfl, (put_at _ _).symm⟩
    have hB' : B = alnP := hB.trans rfl
    rw [hs]
    simp only [swP, c_impl_parsed, sAt, sPut]
    by_cases h0 : (d.length : Int) ≤ at'
    · simp -implicitDefEqProofs only [bU, reduceIte, Nat.reduceEqDiff, reduceCtorEq, implies_true, forall_const, eq_self, Nat.reduceAdd, Nat.reduceLT, bne_self_eq_false, bT, eq_self, true_implies, false_implies, forall_const, if_true, if_false, Int.reduceToNat, Nat.reduceSub, Int.reduceLE, q3, q9, q33, Int.reduceEq, a1, a2, b1, b2, h0]
      exact hκ2 _ _ _ _ rfl rfl hS.e (.inl (by rw [e1, if_pos (.inl (List.drop_of_length_le (by omega)))]))
    · have z1 : (0 : Int) ≤ at' := by omega
      have z2 : (at' : Int) < d.length := by omega
      have hb := (d.getD at' 0).toNat_lt
      have w0 := i64b (d.getD at' 0)
      obtain ⟨b, hbb⟩ : ∃ b, (d.getD at' 0).toNat = b := ⟨_, rfl⟩
      rw [hbb] at e1 w0 hb
      have w1 : IntKind.i64.wrap (1 + (b : Int)) = ((b + 1 : Nat) : Int) := by rw [w64 (by omega) (by omega)]; omega
      by_cases h1 : ((b + 1 : Nat) : Int) < 2
      · simp -implicitDefEqProofs only [bU, reduceIte, Nat.reduceEqDiff, reduceCtorEq, implies_true, forall_const, eq_self, Nat.reduceAdd, Nat.reduceLT, bne_self_eq_false, bT, eq_self, true_implies, false_implies, forall_const, if_true, if_false, Int.reduceToNat, Nat.reduceSub, Int.reduceLE, q3, q9, q12, q33, Int.reduceEq, a1, a2, b1, b2, h0, z1, z2, hbb, w0, w1, toNat_nat, h1]
        exact hκ2 _ _ _ _ rfl rfl hS.e (.inl (by rw [e1, if_pos (.inr (.inl (by omega)))]))
      by_cases h2 : (16 : Int) < ((b + 1 : Nat) : Int)
      · simp -implicitDefEqProofs only [bU, reduceIte, Nat.reduceEqDiff, reduceCtorEq, implies_true, forall_const, eq_self, Nat.reduceAdd, Nat.reduceLT, bne_self_eq_false, bT, eq_self, true_implies, false_implies, forall_const, if_true, if_false, Int.reduceToNat, Nat.reduceSub, Int.reduceLE, q3, q9, q12, q33, Int.reduceEq, a1, a2, b1, b2, h0, z1, z2, hbb, w0, w1, toNat_nat, h1, h2]
        exact hκ2 _ _ _ _ rfl rfl hS.e (.inl (by rw [e1, if_pos (.inr (.inr (.inl (by omega))))]))
      have w2 : IntKind.i64.wrap ((at' : Int) + ((b + 1 : Nat) : Int)) = ((at' + (b + 1) : Nat) : Int) := by rw [w64 (by omega) (by omega)]; rfl
      by_cases h3 : (d.length : Int) < ((at' + (b + 1) : Nat) : Int)
      · simp -implicitDefEqProofs only [bU, reduceIte, Nat.reduceEqDiff, reduceCtorEq, implies_true, forall_const, eq_self, Nat.reduceAdd, Nat.reduceLT, bne_self_eq_false, bT, eq_self, true_implies, false_implies, forall_const, if_true, if_false, Int.reduceToNat, Nat.reduceSub, Int.reduceLE, q3, q9, q12, q33, Int.reduceEq, a1, a2, b1, b2, h0, z1, z2, hbb, w0, w1, w2, toNat_nat, h1, h2, h3]
        exact hκ2 _ _ _ _ rfl rfl hS.e (.inl (by rw [e1, if_pos (.inr (.inr (.inr (.inl (by omega)))))]))
      have w3 : IntKind.i64.wrap ((at' : Int) + 1) = ((at' + 1 : Nat) : Int) := by rw [w64 (by omega) (by omega)]; rfl
      have z3 : (0 : Int) ≤ ((at' + 1 : Nat) : Int) := by omega
      have z4 : ((at' + 1 : Nat) : Int) ≤ ((at' + (b + 1) : Nat) : Int) := by omega
      have z5 : ((at' + (b + 1) : Nat) : Int) ≤ d.length := by omega
      have z6 : at' + (b + 1) - (at' + 1) = b := by omega
      obtain ⟨q, hq⟩ : ∃ q, (d.drop (at' + 1)).take b = q := ⟨_, rfl⟩
      have hql : q.length = b := by rw [← hq]; simp; omega
      rw [hq] at e1
      have hby : Byt (H.new (.arr true 0 1 (encB q))) (.sl H.n 0 q.length) q := by
        have := Mn.own (H := H.new (.arr true 0 1 (encB q))) (z := 1) (id := H.n) (xs := encB q) (by simp) new_at
        rw [enc_len] at this
        exact this.sl
      have hS2 := hS.ext (Ext.new H (.arr true 0 1 (encB q)))
      obtain ⟨l1, l2⟩ := hby.len
      simp -implicitDefEqProofs only [bU, reduceIte, Nat.reduceEqDiff, reduceCtorEq, implies_true, forall_const, eq_self, Nat.reduceAdd, Nat.reduceLT, bne_self_eq_false, bT, eq_self, true_implies, false_implies, forall_const, if_true, if_false, Int.reduceToNat, Nat.reduceSub, Int.reduceLE, q3, q9, q12, q33, Int.reduceEq, a1, a2, b1, b2, h0, z1, z2, hbb, w0, w1, w2, w3, toNat_nat, h1, h2, h3, z3, z4, z5, z6, hq, l1, l2]
      refine exec_loop (fun m e' M => ∃ (k : Nat) (L' : List Lv) (g' : Nat), k ≤ q.length ∧ m = q.length - k ∧ look e' 3 = look e 3 ∧ look e' 8 = look e 8 ∧ look e' 9 = look e 9 ∧ look e' 10 = look e 10 ∧ look e' 13 = .i .i64 ((b + 1 : Nat) : Int) ∧ look e' 29 = look e 29 ∧ look e' 92 = .sl H.n 0 q.length ∧ look e' 93 = .i .i64 q.length ∧ look e' 94 = .i .i64 k ∧ M = ⟨L', g', H.new (.arr true 0 1 (encB q))⟩ ∧ keepL [3, 8, 9, 10, 29] L' = keepL [3, 8, 9, 10, 29] L ∧ ∀ j, j < k → alnum (q.getD j 0) = true) ?_ (n := q.length)
        ⟨0, _, _, by omega, by omega, rfl, rfl, rfl, rfl, rfl, rfl, rfl, rfl, rfl, rfl, rfl, fun j hj => by omega⟩
      rintro m e' M ⟨k, L', g', hk, rfl, r3, r8, r9, r10, r13, r29, r92, r93, r94, rfl, hL, hall⟩
      by_cases hkl : (k : Int) < q.length
      · obtain ⟨t1, t2, t3, t4⟩ := hby.ia (j := k) (by omega) hkl (keepL [3, 8, 9, 10, 13, 29, 92, 93, 94] L') g'
        rw [Int.toNat_natCast] at t3 t4
        have w4 : IntKind.i64.wrap ((k : Int) + 1) = ((k + 1 : Nat) : Int) := by rw [w64 (by omega) (by omega)]; rfl
        simp -implicitDefEqProofs only [bU, reduceIte, Nat.reduceEqDiff, reduceCtorEq, implies_true, forall_const, eq_self, Nat.reduceAdd, Nat.reduceLT, bne_self_eq_false, bT, eq_self, true_implies, false_implies, forall_const, if_true, if_false, Int.reduceToNat, Nat.reduceSub, Int.reduceLE, r3, r8, r9, r10, r13, r29, r92, r93, r94, hkl, t1, t2, t3, t4, toNat_nat]
        rw [hB']
        refine alnP_run (c := q.getD k 0) rfl fun e2 hk2 k120 => ?_
        have s3 := hk2 3 (by simp)
        have s8 := hk2 8 (by simp)
        have s9 := hk2 9 (by simp)
        have s10 := hk2 10 (by simp)
        have s13 := hk2 13 (by simp)
        have s29 := hk2 29 (by simp)
        have s92 := hk2 92 (by simp)
        have s93 := hk2 93 (by simp)
        have s94 := hk2 94 (by simp)
        simp only [bU, reduceIte, Nat.reduceEqDiff, reduceCtorEq, implies_true, forall_const, eq_self, Nat.reduceAdd, Nat.reduceLT, bne_self_eq_false, r3, r8, r9, r10, r13, r29, r92, r93, r94] at s3 s8 s9 s10 s13 s29 s92 s93 s94
        cases ha : alnum (q.getD k 0) with
        | false =>
          rw [ha] at k120
          simp -implicitDefEqProofs only [bU, reduceIte, Nat.reduceEqDiff, reduceCtorEq, implies_true, forall_const, eq_self, Nat.reduceAdd, Nat.reduceLT, bne_self_eq_false, bT, eq_self, true_implies, false_implies, forall_const, if_true, if_false, Int.reduceToNat, Nat.reduceSub, Int.reduceLE, k120]
          exact hκ2 _ _ _ _ rfl rfl hS2.e (.inl (by rw [e1, if_pos (.inr (.inr (.inr (.inr (not_idx (by omega) ha)))))]))
        | true =>
          rw [ha] at k120
          simp -implicitDefEqProofs only [bU, reduceIte, Nat.reduceEqDiff, reduceCtorEq, implies_true, forall_const, eq_self, Nat.reduceAdd, Nat.reduceLT, bne_self_eq_false, bT, eq_self, true_implies, false_implies, forall_const, if_true, if_false, Int.reduceToNat, Nat.reduceSub, Int.reduceLE, k120, s3, s8, s9, s10, s13, s29, s92, s93, s94, w4]
          refine ⟨q.length - (k + 1), by omega, k + 1, _, _, by omega, rfl, rfl, rfl, (keep_keep rfl _).trans hL, fun j hj => ?_⟩
          by_cases hjk : j = k
          · rw [hjk]; exact ha
          · exact hall j (by omega)
      · have hkq : k = q.length := by omega
        simp -implicitDefEqProofs only [bU, reduceIte, Nat.reduceEqDiff, reduceCtorEq, implies_true, forall_const, eq_self, Nat.reduceAdd, Nat.reduceLT, bne_self_eq_false, bT, eq_self, true_implies, false_implies, forall_const, if_true, if_false, Int.reduceToNat, Nat.reduceSub, Int.reduceLE, r3, r8, r9, r10, r13, r29, r92, r93, r94, hkl]
        refine hκ1 _ _ _ _ o (b + 1) ⟨rfl, rfl, rfl, rfl⟩ q8 rfl ((keep_keep rfl _).trans hL) ?_ hS2
        rw [e1, if_neg]
        rintro (h | h | h | h | h)
        · have := congrArg List.length h; simp at this; omega
        · omega
        · omega
        · omega
        · rw [all_idx fun j hj => hall j (by omega)] at h; cases h
  · have c0 : ((84 : UInt8).toNat : Int) = 84 := rfl
    rw [c0] at q33
    have e1 : ilen 84 (d.drop at') = if tGo (d.drop at') = 0 then none else some (tGo (d.drop at')) := rfl
    simp only [swP, c_impl_parsed, sAt]
    simp -implicitDefEqProofs only [bU, reduceIte, Nat.reduceEqDiff, reduceCtorEq, implies_true, forall_const, eq_self, Nat.reduceAdd, Nat.reduceLT, bne_self_eq_false, bT, eq_self, true_implies, false_implies, forall_const, if_true, if_false, Int.reduceToNat, Nat.reduceSub, Int.reduceLE, q3, q9, q33, Int.reduceEq, a1, a2]
    refine exec_loop (fun m e' M => ∃ (k : Nat) (L' : List Lv) (g' : Nat), at' ≤ k ∧ k ≤ d.length + 300 ∧ m = d.length + 300 - k ∧ look e' 3 = look e 3 ∧ look e' 8 = look e 8 ∧ look e' 9 = look e 9 ∧ look e' 10 = look e 10 ∧ look e' 29 = look e 29 ∧ look e' 16 = .i .i64 k ∧ M = ⟨L', g', H⟩ ∧ keepL [3, 8, 9, 10, 29] L' = keepL [3, 8, 9, 10, 29] L ∧ tGo (d.drop at') = k - at' + tGo (d.drop k)) ?_ (n := d.length + 300 - at')
      ⟨at', _, _, by omega, by omega, by omega, rfl, rfl, rfl, rfl, rfl, rfl, rfl, rfl, by omega⟩
    rintro m e' M ⟨k, L', g', hk0, hk, rfl, r3, r8, r9, r10, r29, r16, rfl, hL, hT⟩
    rw [q3] at r3
    rw [q9] at r9
    by_cases hlt : (k : Int) < d.length
    · rw [tGo_at (show k < d.length by omega)] at hT
      have z1 : (0 : Int) ≤ k := by omega
      have hb := (d.getD k 0).toNat_lt
      have w0 := i64b (d.getD k 0)
      have w1 : IntKind.i64.wrap (1 + ((d.getD k 0).toNat : Int)) = ((1 + (d.getD k 0).toNat : Nat) : Int) := by rw [w64 (by omega) (by omega)]; omega
      have w2 : IntKind.i64.wrap ((k : Int) + ((1 + (d.getD k 0).toNat : Nat) : Int)) = ((k + 1 + (d.getD k 0).toNat : Nat) : Int) := by rw [w64 (by omega) (by omega)]; omega
      simp -implicitDefEqProofs only [bU, reduceIte, Nat.reduceEqDiff, reduceCtorEq, implies_true, forall_const, eq_self, Nat.reduceAdd, Nat.reduceLT, bne_self_eq_false, bT, eq_self, true_implies, false_implies, forall_const, if_true, if_false, Int.reduceToNat, Nat.reduceSub, Int.reduceLE, r3, r8, r9, r10, r16, r29, b1, b2, hlt, z1, w0, w1, w2, toNat_nat, q3, q9]
      exact ⟨d.length + 300 - (k + 1 + (d.getD k 0).toNat), by omega, k + 1 + (d.getD k 0).toNat, _, _, by omega, by omega, rfl, rfl, rfl, (keep_keep rfl _).trans hL, by omega⟩
    · rw [List.drop_of_length_le (l := d) (i := k) (by omega), show tGo [] = 0 by rw [tGo]] at hT
      have w3 : IntKind.i64.wrap ((k : Int) - (at' : Int)) = ((k - at' : Nat) : Int) := by rw [w64 (by omega) (by omega)]; omega
      by_cases h0 : k - at' = 0
      · have h0' : ((k - at' : Nat) : Int) = 0 := by omega
        simp -implicitDefEqProofs only [bU, reduceIte, Nat.reduceEqDiff, reduceCtorEq, implies_true, forall_const, eq_self, Nat.reduceAdd, Nat.reduceLT, bne_self_eq_false, bT, eq_self, true_implies, false_implies, forall_const, if_true, if_false, Int.reduceToNat, Nat.reduceSub, Int.reduceLE, r3, r8, r9, r10, r16, r29, a1, a2, b1, b2, hlt, w3, h0']
        exact hκ2 _ _ _ _ rfl rfl hS.e (.inl (by rw [e1, if_pos (by omega)]))
      · have h0' : ¬ ((k - at' : Nat) : Int) = 0 := by omega
        simp -implicitDefEqProofs only [bU, reduceIte, Nat.reduceEqDiff, reduceCtorEq, implies_true, forall_const, eq_self, Nat.reduceAdd, Nat.reduceLT, bne_self_eq_false, bT, eq_self, true_implies, false_implies, forall_const, if_true, if_false, Int.reduceToNat, Nat.reduceSub, Int.reduceLE, r3, r8, r9, r10, r16, r29, a1, a2, b1, b2, hlt, w3, h0']
        exact hκ1 _ _ _ _ o (k - at') ⟨q3.symm, q9.symm, rfl, rfl⟩ q8 rfl ((keep_keep rfl _).trans hL) (by rw [e1, if_neg (by omega)]; congr 1) hS
  · have c0 : ((109 : UInt8).toNat : Int) = 109 := rfl
    rw [c0] at q33
    have e1 : ilen 109 (d.drop at') = if mapOk (d.drop at') (-1) then some (d.drop at').length else none := rfl
    obtain ⟨v, H2, k1, k2, k3⟩ := hM (d.drop at') H (by omega)
    simp only [swP, c_impl_parsed, sAt]
    have hS2 := hS.ext k2
    have kR2 := hR _ _ _ _ _ hS2.d3 hS2.a9 hp
    cases hm : mapOk (d.drop at') (-1) with
    | false =>
      rw [hm] at k3 e1
      have k3' : v = .tp [.ns, .i .i64 7] := k3
      subst k3'
      simp -implicitDefEqProofs only [bU, reduceIte, Nat.reduceEqDiff, reduceCtorEq, implies_true, forall_const, eq_self, Nat.reduceAdd, Nat.reduceLT, bne_self_eq_false, bT, eq_self, true_implies, false_implies, forall_const, if_true, if_false, Int.reduceToNat, Nat.reduceSub, Int.reduceLE, q10, q33, Int.reduceEq, hfn, hnn, kR, k1]
      exact hκ2 _ _ _ _ rfl rfl hS2.e (.inl e1)
    | true =>
      rw [hm] at k3 e1
      obtain ⟨o2, rfl, -, -⟩ : ∃ o, v = .tp [o, .i .i64 0] ∧ Mn H2 1 o (ints (mapTs (d.drop at'))) ∧ ∀ i, i ∈ idA o → H.n ≤ i := k3
      simp -implicitDefEqProofs only [bU, reduceIte, Nat.reduceEqDiff, reduceCtorEq, implies_true, forall_const, eq_self, Nat.reduceAdd, Nat.reduceLT, bne_self_eq_false, bT, eq_self, true_implies, false_implies, forall_const, if_true, if_false, Int.reduceToNat, Nat.reduceSub, Int.reduceLE, q10, q33, Int.reduceEq, hfn, hnn, kR, kR2, k1]
      exact hκ1 _ _ _ _ o _ ⟨rfl, rfl, rfl, rfl⟩ q8 rfl rfl e1 hS2
  · have c0 : ((42 : UInt8).toNat : Int) = 42 := rfl
    rw [c0] at q33
    simp only [swP, c_impl_parsed, sAt]
    simp -implicitDefEqProofs only [bU, reduceIte, Nat.reduceEqDiff, reduceCtorEq, implies_true, forall_const, eq_self, Nat.reduceAdd, Nat.reduceLT, bne_self_eq_false, bT, eq_self, true_implies, false_implies, forall_const, if_true, if_false, Int.reduceToNat, Nat.reduceSub, Int.reduceLE, q10, q33, Int.reduceEq, hfn, hnn, kR]
    exact hκ1 _ _ _ _ o _ ⟨rfl, rfl, rfl, rfl⟩ q8 rfl rfl rfl hS
end
end Go.Vm
/- Data of records: the program's reader of forms, its check, where names stand. -/
namespace Go.Vm
set_option linter.unusedVariables false
set_option linter.unusedSimpArgs false
theorem implForm_ok {t : Int} {p : List UInt8} (h : implForm t = some p) : (∀ f, f ∈ p → f ∈ ([49, 50, 52, 103, 113, 110, 116, 99, 84, 109, 42] : List UInt8)) ∧ p.length ≤ 7 := by
  unfold implForm at h
  repeat' split at h
  all_goals first | (cases h; done) | (injection h with h; subst h; exact ⟨by decide, by decide⟩)
def NmPost (r : Option (List (Nat × Nat))) (H : AH) (v : AV) (H' : AH) : Prop := Ext H H' ∧ match r with
  | none => ∃ o, v = .tp [o, .b false] ∧ o.outs = true
  | some sp => ∃ o, v = .tp [o, .b true] ∧ Mx H' eSp o sp ∧ ∀ i, i ∈ idA o → H.n ≤ i
def T_parsed (C : Tab) (f : Nat) : Prop := ∀ (t : Int) (d : List UInt8) (H : AH), FormsOK H → d.length ≤ 1099511627776 → ∃ v H', C f [.i .i64 t, .s d] H = some (v, H') ∧ NmPost (nmsD t d) H v H'
def T_CheckI (C : Tab) (f : Nat) : Prop := ∀ (t : Int) (d : List UInt8) (H : AH), FormsOK H → d.length ≤ 1099511627776 → ∃ v H', C f [.i .i64 t, .s d] H = some (v, H') ∧ v = .i .i64 (chk t d) ∧ Ext H H'
section
variable {C : Tab}
set_option maxHeartbeats 1000000 in
theorem r_parsed {t : Int} {d : List UInt8} {H : AH} (hR : T_rest C n_impl_parsed_1) (hN : T_nmI C n_impl_nameAt) (hM : T_MapTypes C n_impl_MapTypes) (hF : FormsOK H) (hd : d.length ≤ 1099511627776) : Runs C c_impl_parsed [.i .i64 t, .s d] H (NmPost (nmsD t d) H) := by
  unfold Runs
  obtain ⟨B, hB, hs⟩ := cut_at c_impl_parsed [1, 1, 1, 1, 1, 1, 0, 1, 2, 2, 1, 1, 2, 1, 1, 0, 1]
  rw [hs]
  simp only [c_impl_parsed, sPut]
  have hB' : B = swP := hB
  obtain ⟨rw', mid, es, h1, h2, h3, h4, h5, h6⟩ := hF.ext (Ext.new H (.arr true 0 1 [.s d]))
  obtain ⟨f1, f2⟩ := cell_ld h1 rfl
  have f3 : mpOk (H.new (.arr true 0 1 [.s d])) (.mp mid) := by simp only [mpOk, h2]
  have f4 : mpEs (H.new (.arr true 0 1 [.s d])) (.mp mid) = es := by simp only [mpEs, h2]
  have f5 : keyOk [.i .i64] es (.i .i64 t) := ⟨_, rfl, by simp [AV.isCk], h5⟩
  have f6 := (h6 t).trans (forms_find t)
  simp only [gForms] at f1 f2
  cases hi : implForm t with
  | none =>
    rw [hi] at f6
    have f6' : mpFind es (.i .i64 t) = none := f6
    rw [nmsD_none hi]
    simp -implicitDefEqProofs only [bU, reduceIte, Nat.reduceEqDiff, reduceCtorEq, implies_true, forall_const, eq_self, Nat.reduceAdd, Nat.reduceLT, bne_self_eq_false, bT, eq_self, true_implies, false_implies, forall_const, if_true, if_false, Int.reduceToNat, Nat.reduceSub, Int.reduceLE, f1, f2, f3, f4, f5, f6', lkV, endK, rsC, rsV, resV]
    exact ⟨.new _ _, .ns, rfl, .nil, by simp [idA]⟩
  | some p =>
    rw [hi] at f6
    have f6' : mpFind es (.i .i64 t) = some (.s p) := f6
    rw [nmsD_some hi]
    obtain ⟨hlet, hpl⟩ := implForm_ok hi
    have z9 : ((H.new (.arr true 0 1 [.s d])).new (.arr true 0 1 [.i .i64 0])).at' (H.n + 1) = .arr true 0 1 [.i .i64 0] := new_at
    obtain ⟨s1, s2⟩ := cell_st z9 rfl (w := .i .i64 0) rfl (fun cs h => by cases h)
    have hset : (((H.new (.arr true 0 1 [.s d])).new (.arr true 0 1 [.i .i64 0])).set (H.n + 1) (.arr true 0 1 [.i .i64 0])) = ((H.new (.arr true 0 1 [.s d])).new (.arr true 0 1 [.i .i64 0])) := new_set
    rw [hset] at s2
    have y1 : allP [AV.pv H.n 0, .pv (H.n + 1) 0] = true := rfl
    have hnn : (H.new (.arr true 0 1 [.s d])).n = H.n + 1 := rfl
    simp -implicitDefEqProofs only [bU, reduceIte, Nat.reduceEqDiff, reduceCtorEq, implies_true, forall_const, eq_self, Nat.reduceAdd, Nat.reduceLT, bne_self_eq_false, bT, eq_self, true_implies, false_implies, forall_const, if_true, if_false, Int.reduceToNat, Nat.reduceSub, Int.reduceLE, f1, f2, f3, f4, f5, f6', lkV, hnn, s1, s2, y1]
    have hS0 : PS H ((H.new (.arr true 0 1 [.s d])).new (.arr true 0 1 [.i .i64 0])) d 0 .ns [] := ⟨(new_old (by simp)).trans new_at, new_at, .nil, (Ext.new _ _).trans (Ext.new _ _), by simp [idA], by simp⟩
    refine exec_loop (fun n e M => ∃ (i at' : Nat) (sp : List (Nat × Nat)) (o : AV) (H' : AH) (L : List Lv) (g g' : Nat), i ≤ p.length ∧ n = p.length - i ∧ look e 3 = .pv H.n 0 ∧ look e 8 = o ∧ look e 9 = .pv (H.n + 1) 0 ∧ look e 10 = .fn n_impl_parsed_1 [.pv H.n 0, .pv (H.n + 1) 0] ∧ look e 29 = .li 29 g' ∧ M = ⟨L, g, H'⟩ ∧ keepL [3, 8, 9, 10, 29] L = [⟨29, g', 1, [.s p, .i .i64 i]⟩] ∧ PS H H' d at' o sp ∧ sp.length ≤ i ∧ at' ≤ d.length ∧ iprs p d 0 = (iprs (p.drop i) (d.drop at') at').map fun q => sp ++ q) ?_ (n := p.length)
      ⟨0, 0, [], .ns, _, _, _, _, by omega, by omega, rfl, rfl, rfl, rfl, rfl, rfl, rfl, hS0, by simp, by omega, by simp⟩
    rintro n e M ⟨i, at', sp, o, H', L, g, g', hil, rfl, q3, q8, q9, q10, q29, rfl, hL, hS, hsp, hat, hg⟩
    have n1 : ∀ g H, itC ⟨[⟨29, g', 1, [.s p, .i .i64 i]⟩], g, H⟩ (.li 29 g') := fun g H => by simp [itC, Mem.hasL, lookL]
    have n2 : ∀ g H, itS ⟨[⟨29, g', 1, [.s p, .i .i64 i]⟩], g, H⟩ (.li 29 g') = p := fun g H => by simp [itS, Mem.getL, lookL]
    have n3 : ∀ g H, itP ⟨[⟨29, g', 1, [.s p, .i .i64 i]⟩], g, H⟩ (.li 29 g') = i := fun g H => by simp [itP, Mem.getL, lookL]
    by_cases hlt : i < p.length
    · obtain ⟨f, hff⟩ : ∃ f, p.getD i 0 = f := ⟨_, rfl⟩
      have hmem : f ∈ p := by
        rw [← hff, List.getD, List.getElem?_eq_getElem hlt]
        exact List.getElem_mem hlt
      have hfl := hlet f hmem
      have hf128 : f.toNat < 128 := by
        simp only [List.mem_cons, List.not_mem_nil, or_false] at hfl
        rcases hfl with h | h | h | h | h | h | h | h | h | h | h <;> rw [h] <;> decide
      have hdec : Utf8.decode ⟨p.toArray⟩ i = (f.toNat, 1) := by
        rw [← hff]; exact utf1 hlt (by rw [hff]; exact hf128)
      have hdr : p.drop i = f :: p.drop (i + 1) := by rw [List.drop_eq_getElem_cons hlt, ← hff]; simp [List.getD, hlt]
      rw [hdr, iprs] at hg
      simp -implicitDefEqProofs only [bU, reduceIte, Nat.reduceEqDiff, reduceCtorEq, implies_true, forall_const, eq_self, Nat.reduceAdd, Nat.reduceLT, bne_self_eq_false, bT, eq_self, true_implies, false_implies, forall_const, if_true, if_false, Int.reduceToNat, Nat.reduceSub, Int.reduceLE, q3, q8, q9, q10, q29, hL, n1, n2, n3, hlt, hdec]
      rw [hB']
      have hset2 : setL [⟨29, g', 1, [.s p, .i .i64 i]⟩] 29 [.s p, .i .i64 ((i + 1 : Nat) : Int)] = [⟨29, g', 1, [.s p, .i .i64 ((i + 1 : Nat) : Int)]⟩] := by simp [setL]
      simp only [hset2]
      refine swP_run (f := f) (d := d) (at' := at') (sp := sp) (H0 := H) hR hN hM hfl rfl rfl rfl rfl rfl rfl rfl hd hat (by omega) hS (fun e' L' g2 H2 o' n hk k8 k13 hkL hn hS2 => ?_) (fun e' L' g2 H2 k4 k5 he hn => ?_)
      · obtain ⟨k3, k9, k10, k29⟩ := hk
        simp only [bU, reduceIte, Nat.reduceEqDiff, reduceCtorEq, implies_true, forall_const, eq_self, Nat.reduceAdd, Nat.reduceLT, bne_self_eq_false] at k3 k9 k10 k29
        rw [hn] at hg
        simp only at hg
        obtain ⟨a1, a2⟩ := cell_ld hS2.a9 rfl
        obtain ⟨b1, b2⟩ := cell_ld hS2.d3 rfl
        have hdl : (d.drop at').length = d.length - at' := List.length_drop
        rw [hdl] at hg
        have hn' : n ≤ 329853488332800 := by
          have hT : ∀ (k : Nat) (s : List UInt8), s.length ≤ k → tGo s ≤ s.length * 256 := fun k => by
            induction k with
            | zero =>
              intro s hs
              have e0 : s = [] := List.eq_nil_of_length_eq_zero (by omega)
              rw [e0, tGo]
              exact Nat.zero_le _
            | succ k ih =>
              intro s hs
              cases s with
              | nil => rw [tGo]; exact Nat.zero_le _
              | cons c r =>
                rw [tGo]
                have := c.toNat_lt
                have := ih (r.drop c.toNat) (by simp at hs ⊢; omega)
                simp only [List.length_cons, List.length_drop] at this ⊢
                omega
          have h1 := nmAt_le (d.drop at')
          have h2 := hT _ (d.drop at') (Nat.le_refl _)
          have h3 := ((d.drop at').getD 0 0).toNat_lt
          unfold ilen at hn
          repeat' split at hn
          all_goals first | (cases hn; done) | (injection hn with hn; omega)
        have w1 : IntKind.i64.wrap ((at' : Int) + (n : Int)) = ((at' + n : Nat) : Int) := by rw [w64 (by omega) (by omega)]; rfl
        by_cases hbig : (d.length : Int) < ((at' + n : Nat) : Int)
        · rw [if_pos (by omega), Option.map_none] at hg
          rw [hg]
          simp -implicitDefEqProofs only [bU, reduceIte, Nat.reduceEqDiff, reduceCtorEq, implies_true, forall_const, eq_self, Nat.reduceAdd, Nat.reduceLT, bne_self_eq_false, bT, eq_self, true_implies, false_implies, forall_const, if_true, if_false, Int.reduceToNat, Nat.reduceSub, Int.reduceLE, k3, k8, k9, k10, k13, k29, a1, a2, b1, b2, w1, hbig, endK, rsC, rsV, resV]
          exact ⟨hS2.e, .ns, rfl, rfl⟩
        · rw [if_neg (by omega), Option.map_map, List.drop_drop] at hg
          obtain ⟨t1, t2⟩ := cell_st hS2.a9 rfl (w := .i .i64 ((at' + n : Nat) : Int)) rfl (fun cs h => by cases h)
          simp -implicitDefEqProofs only [bU, reduceIte, Nat.reduceEqDiff, reduceCtorEq, implies_true, forall_const, eq_self, Nat.reduceAdd, Nat.reduceLT, bne_self_eq_false, bT, eq_self, true_implies, false_implies, forall_const, if_true, if_false, Int.reduceToNat, Nat.reduceSub, Int.reduceLE, k3, k8, k9, k10, k13, k29, a1, a2, b1, b2, w1, hbig, t1, t2]
          refine ⟨p.length - (i + 1), by omega, i + 1, at' + n, if f = 110 then sp ++ [(at', at' + n)] else sp, o', _, _, _, g', by omega, rfl, rfl, rfl, rfl, hkL, ?_, ?_, by omega, ?_⟩
          · refine ⟨(set_ne (by omega)).trans hS2.d3, set_at, ?_, hS2.e.set (by omega), hS2.i, hS2.n⟩
            exact Mn.fr hS2.m (Nat.le_refl _) fun j hj => set_ne (by have := hS2.i j hj; omega)
          · by_cases h110 : f = 110
            · rw [if_pos h110, List.length_append, List.length_singleton]; omega
            · rw [if_neg h110]; omega
          · rw [hg]
            congr 1
            funext q
            by_cases h110 : f = 110
            · simp [h110]
            · simp [h110]
      · have hnone : iprs p d 0 = none := by
          rw [hg]
          rcases hn with hn | ⟨n, hn, hlt2⟩
          · rw [hn]; rfl
          · rw [hn]
            simp only
            rw [if_pos (by rw [List.length_drop]; exact hlt2)]
            rfl
        rw [hnone]
        simp -implicitDefEqProofs only [bU, reduceIte, Nat.reduceEqDiff, reduceCtorEq, implies_true, forall_const, eq_self, Nat.reduceAdd, Nat.reduceLT, bne_self_eq_false, bT, eq_self, true_implies, false_implies, forall_const, if_true, if_false, Int.reduceToNat, Nat.reduceSub, Int.reduceLE, k4, k5, endK, rsC, rsV, resV]
        exact ⟨he, .ns, rfl, rfl⟩
    · have hip : i = p.length := by omega
      rw [hip, List.drop_length, iprs] at hg
      obtain ⟨a1, a2⟩ := cell_ld hS.a9 rfl
      obtain ⟨b1, b2⟩ := cell_ld hS.d3 rfl
      have ho := (Mn.sl hS.m).out
      simp -implicitDefEqProofs only [bU, reduceIte, Nat.reduceEqDiff, reduceCtorEq, implies_true, forall_const, eq_self, Nat.reduceAdd, Nat.reduceLT, bne_self_eq_false, bT, eq_self, true_implies, false_implies, forall_const, if_true, if_false, Int.reduceToNat, Nat.reduceSub, Int.reduceLE, q3, q8, q9, q10, q29, hL, n1, n2, n3, hlt, a1, a2, b1, b2, ho, endK, rsC, rsV, resV]
      by_cases hend : at' = d.length
      · rw [if_pos (List.drop_of_length_le (by omega)), Option.map_some, List.append_nil] at hg
        rw [hg]
        exact ⟨hS.e, o, by rw [decide_eq_true (by omega)], hS.m, fun j hj => by have := hS.i j hj; omega⟩
      · rw [if_neg (fun hh => by have := congrArg List.length hh; simp at this; omega), Option.map_none] at hg
        rw [hg]
        exact ⟨hS.e, o, by rw [decide_eq_false (by omega)], ho⟩
theorem r_CheckI {t : Int} {d : List UInt8} {H : AH} (hP : T_parsed C n_impl_parsed) (hF : FormsOK H) (hd : d.length ≤ 1099511627776) : Runs C c_impl_CheckData [.i .i64 t, .s d] H fun v H' => v = .i .i64 (chk t d) ∧ Ext H H' := by
  unfold Runs c_impl_CheckData
  rw [chk_nms]
  by_cases h1 : t < 0
  · rw [if_pos (.inl h1)]
    simp -implicitDefEqProofs only [bU, reduceIte, Nat.reduceEqDiff, reduceCtorEq, implies_true, forall_const, eq_self, Nat.reduceAdd, Nat.reduceLT, bne_self_eq_false, bT, eq_self, true_implies, false_implies, forall_const, if_true, if_false, Int.reduceToNat, Nat.reduceSub, Int.reduceLE, h1, endK, rsC, rsV, resV]
    exact .refl _
  by_cases h2 : 65535 < t
  · rw [if_pos (.inr h2)]
    simp -implicitDefEqProofs only [bU, reduceIte, Nat.reduceEqDiff, reduceCtorEq, implies_true, forall_const, eq_self, Nat.reduceAdd, Nat.reduceLT, bne_self_eq_false, bT, eq_self, true_implies, false_implies, forall_const, if_true, if_false, Int.reduceToNat, Nat.reduceSub, Int.reduceLE, h1, h2, endK, rsC, rsV, resV]
    exact .refl _
  rw [if_neg (by omega)]
  by_cases h3 : (65535 : Int) < d.length
  · rw [if_pos (.inl (by omega))]
    simp -implicitDefEqProofs only [bU, reduceIte, Nat.reduceEqDiff, reduceCtorEq, implies_true, forall_const, eq_self, Nat.reduceAdd, Nat.reduceLT, bne_self_eq_false, bT, eq_self, true_implies, false_implies, forall_const, if_true, if_false, Int.reduceToNat, Nat.reduceSub, Int.reduceLE, h1, h2, h3, endK, rsC, rsV, resV]
    exact .refl _
  obtain ⟨v, H', k2, k3, k4⟩ := hP t d H hF hd
  cases hp : nmsD t d with
  | none =>
    rw [if_pos (.inr rfl)]
    rw [hp] at k4
    obtain ⟨o, rfl, ho⟩ := k4
    simp -implicitDefEqProofs only [bU, reduceIte, Nat.reduceEqDiff, reduceCtorEq, implies_true, forall_const, eq_self, Nat.reduceAdd, Nat.reduceLT, bne_self_eq_false, bT, eq_self, true_implies, false_implies, forall_const, if_true, if_false, Int.reduceToNat, Nat.reduceSub, Int.reduceLE, h1, h2, h3, k2, ho, endK, rsC, rsV, resV]
    exact k3
  | some ps =>
    rw [if_neg (by simp; omega)]
    rw [hp] at k4
    obtain ⟨o, rfl, hm, -⟩ := k4
    have ho := (Mn.sl hm).out
    simp -implicitDefEqProofs only [bU, reduceIte, Nat.reduceEqDiff, reduceCtorEq, implies_true, forall_const, eq_self, Nat.reduceAdd, Nat.reduceLT, bne_self_eq_false, bT, eq_self, true_implies, false_implies, forall_const, if_true, if_false, Int.reduceToNat, Nat.reduceSub, Int.reduceLE, h1, h2, h3, k2, ho, endK, rsC, rsV, resV]
    exact k3
end
end Go.Vm
/- Reading messages: names folded and joined; what a reader makes of bytes. No program in sight. -/
namespace Go.Vm
set_option linter.unusedVariables false
set_option linter.unusedSimpArgs false
def low (b : UInt8) : UInt8 := if 65 ≤ b.toNat ∧ b.toNat ≤ 90 then b + 32 else b
/-- Labels, each behind its length. -/
def joinP : List (List UInt8) → List UInt8
  | [] => []
  | s :: r => UInt8.ofNat s.length :: (s ++ joinP r)
def joinL (ls : List (List UInt8)) : List UInt8 := joinP ls ++ [0]
theorem joinP_app : ∀ (a b : List (List UInt8)), joinP (a ++ b) = joinP a ++ joinP b
  | [], b => rfl
  | s :: r, b => by simp [joinP, joinP_app r b]
theorem low_small {b : UInt8} (h : b.toNat ≤ 63) : low b = b := by
  unfold low
  rw [if_neg (by omega)]
theorem labGo_join : ∀ (n : Nat) (s : List UInt8) (ls : List (List UInt8)), s.length ≤ n → labGo s = some ls → joinL ls = s ∧ joinL (ls.map fun l => l.map low) = s.map low ∧ ls.length ≤ s.length ∧ ∀ l, l ∈ ls → l.length ≤ 63
  | n, [], ls, _, h => by rw [labGo] at h; cases h
  | 0, _ :: _, _, h, _ => by simp at h
  | n + 1, c :: r, ls, hn, h => by
    rw [labGo] at h
    simp only [List.length_cons] at hn
    by_cases h0 : c.toNat = 0
    · rw [if_pos h0] at h
      by_cases hr : r = []
      · rw [if_pos hr] at h
        injection h with h
        subst hr h
        have : c = 0 := UInt8.toNat_inj.1 h0
        subst this
        exact ⟨rfl, by decide, by simp, by simp⟩
      · rw [if_neg hr] at h; cases h
    · rw [if_neg h0] at h
      by_cases h1 : 63 < c.toNat ∨ r.length < c.toNat
      · rw [dif_pos h1] at h; cases h
      · rw [dif_neg h1] at h
        cases hq : labGo (r.drop c.toNat) with
        | none => rw [hq] at h; cases h
        | some q =>
          rw [hq] at h
          injection h with h
          subst h
          obtain ⟨g1, g2, g3, g4⟩ := labGo_join n (r.drop c.toNat) q (by simp; omega) hq
          have hc : UInt8.ofNat (r.take c.toNat).length = c := by
            rw [List.length_take, Nat.min_eq_left (by omega)]
            exact UInt8.ofNat_toNat
          have hc2 : UInt8.ofNat ((r.take c.toNat).map low).length = c := by rw [List.length_map]; exact hc
          refine ⟨?_, ?_, ?_, ?_⟩
          · unfold joinL at g1 ⊢
            simp only [joinP, hc, List.cons_append, List.append_assoc]
            rw [g1, List.take_append_drop]
          · unfold joinL at g2 ⊢
            simp only [List.map_cons, joinP, hc2, List.cons_append, List.append_assoc]
            rw [g2, ← List.map_append, List.take_append_drop, low_small (by omega)]
          · simp only [List.length_cons, List.length_drop] at g3 ⊢; omega
          · intro l hl
            rcases List.mem_cons.1 hl with rfl | hl
            · simp; omega
            · exact g4 l hl
/-- A name with small letters; nothing, where it is none. -/
def foldN (s : List UInt8) : List UInt8 := match nameL s with
  | none => []
  | some _ => s.map low
theorem nameL_join {s : List UInt8} {ls : List (List UInt8)} (h : nameL s = some ls) : joinL ls = s ∧ joinL (ls.map fun l => l.map low) = s.map low ∧ ls.length ≤ s.length ∧ (∀ l, l ∈ ls → l.length ≤ 63) ∧ s.length ≤ 255 := by
  unfold nameL at h
  by_cases h2 : 255 < s.length
  · rw [if_pos h2] at h; cases h
  · rw [if_neg h2] at h
    obtain ⟨a, b, c, d⟩ := labGo_join _ s ls (Nat.le_refl _) h
    exact ⟨a, b, c, d, by omega⟩
/-- The name at a place: from there on, where it was begun, the place behind it, what was read. -/
def dn (b : List UInt8) (pos start : Nat) (nx : Option Nat) (out : List UInt8) : Except Int (List UInt8 × Nat) :=
  if h : b.length ≤ pos then .error 8
  else if (b.getD pos 0).toNat = 0 then .ok (out ++ [0], nx.getD (pos + 1))
  else if 192 ≤ (b.getD pos 0).toNat then
    if b.length ≤ pos + 1 then .error 8
    else if h2 : start ≤ ((b.getD pos 0).toNat - 192) * 256 + (b.getD (pos + 1) 0).toNat then .error 9
    else dn b (((b.getD pos 0).toNat - 192) * 256 + (b.getD (pos + 1) 0).toNat) (((b.getD pos 0).toNat - 192) * 256 + (b.getD (pos + 1) 0).toNat) (some (nx.getD (pos + 2))) out
  else if 63 < (b.getD pos 0).toNat then .error 2
  else if b.length < pos + 1 + (b.getD pos 0).toNat then .error 8
  else if 255 < out.length + 1 + (b.getD pos 0).toNat + 1 then .error 3
  else dn b (pos + 1 + (b.getD pos 0).toNat) start nx (out ++ (b.drop pos).take (1 + (b.getD pos 0).toNat))
termination_by (start, b.length - pos)
decreasing_by
  · exact Prod.Lex.left _ _ (by omega)
  · exact Prod.Lex.right _ (by omega)
/-- How much is left to do. -/
def dnM (b : List UInt8) (pos start : Nat) : Nat := start * (b.length + 1) + (b.length - pos)
theorem dnM_ptr {b : List UInt8} {pos start off : Nat} (h : off < start) : dnM b off off < dnM b pos start := by
  unfold dnM
  have := Nat.mul_le_mul_right (b.length + 1) (show off + 1 ≤ start from h)
  rw [Nat.add_mul, Nat.one_mul] at this
  omega
theorem dnM_lab {b : List UInt8} {pos start k : Nat} (h : pos < b.length) (hk : 0 < k) : dnM b (pos + k) start < dnM b pos start := by
  unfold dnM; omega
/-- What is read is a name, and the place behind it is within the bytes. -/
theorem dn_ok (b : List UInt8) : ∀ (n pos start : Nat) (nx : Option Nat) (out s : List UInt8) (q : Nat), dnM b pos start ≤ n → out.length ≤ 254 → (∀ k, nx = some k → k ≤ b.length) →
    dn b pos start nx out = .ok (s, q) → ∃ r ls, s = out ++ r ∧ labGo r = some ls ∧ s.length ≤ 255 ∧ q ≤ b.length
  | n, pos, start, nx, out, s, q, hn, ho, hx, h => by
    rw [dn] at h
    by_cases h1 : b.length ≤ pos
    · rw [dif_pos h1] at h; cases h
    rw [dif_neg h1] at h
    have e1 : ∀ k, k ≤ b.length → nx.getD k ≤ b.length := fun k hk => by
      cases nx with
      | none => exact hk
      | some k => exact hx k rfl
    by_cases h2 : (b.getD pos 0).toNat = 0
    · rw [if_pos h2] at h
      injection h with h
      injection h with h h'
      subst h h'
      exact ⟨[0], [], rfl, by rw [labGo]; simp, by simp; omega, e1 _ (by omega)⟩
    rw [if_neg h2] at h
    by_cases h3 : 192 ≤ (b.getD pos 0).toNat
    · rw [if_pos h3] at h
      by_cases h4 : b.length ≤ pos + 1
      · rw [if_pos h4] at h; cases h
      rw [if_neg h4] at h
      by_cases h5 : start ≤ ((b.getD pos 0).toNat - 192) * 256 + (b.getD (pos + 1) 0).toNat
      · rw [dif_pos h5] at h; cases h
      rw [dif_neg h5] at h
      have hm := dnM_ptr (b := b) (pos := pos) (Nat.lt_of_not_le h5)
      match n, hn with
      | 0, hn => omega
      | n + 1, hn => exact dn_ok b n _ _ _ out s q (by omega) ho (fun k hk => by injection hk with hk; subst hk; exact e1 _ (by omega)) h
    rw [if_neg h3] at h
    by_cases h6 : 63 < (b.getD pos 0).toNat
    · rw [if_pos h6] at h; cases h
    rw [if_neg h6] at h
    by_cases h7 : b.length < pos + 1 + (b.getD pos 0).toNat
    · rw [if_pos h7] at h; cases h
    rw [if_neg h7] at h
    by_cases h8 : 255 < out.length + 1 + (b.getD pos 0).toNat + 1
    · rw [if_pos h8] at h; cases h
    rw [if_neg h8] at h
    have hm := dnM_lab (b := b) (pos := pos) (start := start) (k := 1 + (b.getD pos 0).toNat) (by omega) (by omega)
    rw [← Nat.add_assoc] at hm
    have hd : (b.drop pos).take (1 + (b.getD pos 0).toNat) = b.getD pos 0 :: ((b.drop (pos + 1)).take (b.getD pos 0).toNat) := by
      have e : b.getD pos 0 = b[pos]'(by omega) := by simp [List.getD, List.getElem?_eq_getElem (show pos < b.length by omega)]
      rw [List.drop_eq_getElem_cons (by omega), Nat.add_comm 1, List.take_succ_cons, e]
    have hlen : ((b.drop (pos + 1)).take (b.getD pos 0).toNat).length = (b.getD pos 0).toNat := by rw [List.length_take, List.length_drop]; omega
    match n, hn with
    | 0, hn => omega
    | n + 1, hn =>
      obtain ⟨r, ls, g1, g2, g3, g4⟩ := dn_ok b n _ _ _ _ s q (by omega) (by rw [List.length_append, hd, List.length_cons, hlen]; omega) hx h
      refine ⟨(b.drop pos).take (1 + (b.getD pos 0).toNat) ++ r, ((b.drop (pos + 1)).take (b.getD pos 0).toNat) :: ls, by rw [g1, List.append_assoc], ?_, g3, g4⟩
      rw [hd, List.cons_append, labGo]
      simp only [h2, if_false]
      rw [dif_neg (by simp only [List.length_append, hlen]; omega), List.drop_left' hlen, List.take_left' hlen, g2]
      rfl
theorem dn_name {b s : List UInt8} {p q : Nat} (h : dn b p p none [] = .ok (s, q)) : (labGo s).isSome = true ∧ s.length ≤ 255 ∧ q ≤ b.length := by
  obtain ⟨r, ls, g1, g2, g3, g4⟩ := dn_ok b _ p p none [] s q (Nat.le_refl _) (by simp) (fun k hk => by cases hk) h
  rw [List.nil_append] at g1
  subst g1
  exact ⟨by rw [g2]; rfl, g3, g4⟩
theorem dn_err (b : List UInt8) : ∀ (n pos start : Nat) (nx : Option Nat) (out : List UInt8) (c : Int), dnM b pos start ≤ n → dn b pos start nx out = .error c → c ≠ 0
  | n, pos, start, nx, out, c, hn, h => by
    rw [dn] at h
    by_cases h1 : b.length ≤ pos
    · rw [dif_pos h1] at h; injection h with h; omega
    rw [dif_neg h1] at h
    by_cases h2 : (b.getD pos 0).toNat = 0
    · rw [if_pos h2] at h; cases h
    rw [if_neg h2] at h
    by_cases h3 : 192 ≤ (b.getD pos 0).toNat
    · rw [if_pos h3] at h
      by_cases h4 : b.length ≤ pos + 1
      · rw [if_pos h4] at h; injection h with h; omega
      rw [if_neg h4] at h
      by_cases h5 : start ≤ ((b.getD pos 0).toNat - 192) * 256 + (b.getD (pos + 1) 0).toNat
      · rw [dif_pos h5] at h; injection h with h; omega
      rw [dif_neg h5] at h
      have hm := dnM_ptr (b := b) (pos := pos) (Nat.lt_of_not_le h5)
      match n, hn with
      | 0, hn => omega
      | n + 1, hn => exact dn_err b n _ _ _ out c (by omega) h
    rw [if_neg h3] at h
    by_cases h6 : 63 < (b.getD pos 0).toNat
    · rw [if_pos h6] at h; injection h with h; omega
    rw [if_neg h6] at h
    by_cases h7 : b.length < pos + 1 + (b.getD pos 0).toNat
    · rw [if_pos h7] at h; injection h with h; omega
    rw [if_neg h7] at h
    by_cases h8 : 255 < out.length + 1 + (b.getD pos 0).toNat + 1
    · rw [if_pos h8] at h; injection h with h; omega
    rw [if_neg h8] at h
    have hm := dnM_lab (b := b) (pos := pos) (start := start) (k := 1 + (b.getD pos 0).toNat) (by omega) (by omega)
    rw [← Nat.add_assoc] at hm
    match n, hn with
    | 0, hn => omega
    | n + 1, hn => exact dn_err b n _ _ _ _ c (by omega) h
theorem dn_e {b : List UInt8} {p : Nat} {c : Int} (h : dn b p p none [] = .error c) : c ≠ 0 := dn_err b _ p p none [] c (Nat.le_refl _) h
def dnV : Except Int (List UInt8 × Nat) → AV
  | .error c => .tp [.s [], .i .i64 0, .i .i64 c]
  | .ok (s, q) => .tp [.s s, .i .i64 (q : Nat), .i .i64 0]
def nxV : Option Nat → AV
  | none => .i .i64 (-1)
  | some k => .i .i64 (k : Nat)
end Go.Vm
