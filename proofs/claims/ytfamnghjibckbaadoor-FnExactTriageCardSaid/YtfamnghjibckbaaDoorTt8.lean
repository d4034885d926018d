import Derived.Test.YtfamnghjibckbaaDoorTt3
import Derived.Test.YtfamnghjibckbaaDoorTt7
import Derived.Test.YtfamnghjibckbaaDoorProg
import Derived.KernelRfl
import Derived.Test.YtfamnghjibckbaaDoorTt6
import Derived.Test.YtfamnghjibckbaaDoorTt5
/- Names within a message: the specification's reader. -/
namespace Go.Vm
set_option linter.unusedVariables false
set_option linter.unusedSimpArgs false
section
variable {C : Tab}
set_option maxHeartbeats 1000000 in
theorem r_DecodeNameS {a : AV} {l : List UInt8} {p : Nat} {H : AH} (hJ : T_joinN C n_spec_l01Join) (h : Byt H a l) (hc : Cl H a) (hl : l.length ≤ 65535) (hp : p ≤ l.length) :
    Runs C c_spec_DecodeName [a, .i .i64 p] H fun v H' => v = dnV (dn l p p none []) ∧ Ext H H' := by
  unfold Runs c_spec_DecodeName
  obtain ⟨l1, l2⟩ := h.len
  have oa := h.out
  have p0 : ¬ (p : Int) < 0 := by omega
  have p1 : ¬ (l.length : Int) < p := by omega
  simp -implicitDefEqProofs only [bU, reduceIte, Nat.reduceEqDiff, reduceCtorEq, implies_true, forall_const, eq_self, Nat.reduceAdd, Nat.reduceLT, bne_self_eq_false, bT, eq_self, true_implies, false_implies, forall_const, if_true, if_false, Int.reduceToNat, Nat.reduceSub, Int.reduceLE, bV, Nat.reduceAdd, Nat.reduceLT, Nat.reduceLeDiff, Nat.reduceLeDiff, l1, l2, p0, p1, fillEC, fillE, List.replicate]
  refine exec_loop (fun n e M => ∃ (pos start : Nat) (nx : Option Nat) (acc : List (List UInt8)) (o : AV) (H' : AH) (L : List Lv) (g : Nat), start ≤ l.length ∧ pos ≤ l.length ∧ n = dnM l pos start ∧ look e 0 = a ∧ look e 1 = .i .i64 pos ∧ look e 7 = .i .i64 l.length ∧ look e 8 = o ∧ look e 9 = .i .i64 ((joinP acc).length + 1 : Nat) ∧ look e 10 = nxV nx ∧ look e 11 = .i .i64 start ∧ M = ⟨L, g, H'⟩ ∧
    Mn H' 1 o (acc.map AV.s) ∧ (joinP acc).length ≤ 254 ∧ acc.length ≤ (joinP acc).length ∧ (∀ x, x ∈ acc → x.length ≤ 255) ∧ Ext H H' ∧ (∀ j, j ∈ idA o → H.n ≤ j) ∧ (∀ k, nx = some k → k ≤ l.length) ∧ dn l p p none [] = dn l pos start nx (joinP acc)) ?_ (n := dnM l p p)
    ⟨p, p, none, [], .sl H.n 0 0, _, _, _, hp, hp, rfl, rfl, rfl, rfl, rfl, rfl, rfl, rfl, rfl, Mn.own (xs := []) (by simp) new_at, by simp [joinP], by simp, by simp, .new _ _, by simp [idA], fun k hk => (by cases hk), rfl⟩
  rintro n e M ⟨pos, start, nx, acc, o, H', L, g, hst, hpos, rfl, q0, q1, q7, q8, q9, q10, q11, rfl, hm, hol, hal, hax, he, hid, hnx, hd⟩
  have hs : Byt H' a l := h.ext he
  have hc' : Cl H' a := hc.fr fun i hi => he.at' i (Sl.lt h i hi)
  have oo := hm.sl.out
  rw [dn.eq_1 l pos start nx (joinP acc)] at hd
  by_cases h1 : l.length ≤ pos
  · rw [dif_pos h1] at hd
    have h1' : (l.length : Int) ≤ pos := by omega
    simp -implicitDefEqProofs only [bU, reduceIte, Nat.reduceEqDiff, reduceCtorEq, implies_true, forall_const, eq_self, Nat.reduceAdd, Nat.reduceLT, bne_self_eq_false, bT, eq_self, true_implies, false_implies, forall_const, if_true, if_false, Int.reduceToNat, Nat.reduceSub, Int.reduceLE, bV, Nat.reduceAdd, Nat.reduceLT, Nat.reduceLeDiff, Nat.reduceLeDiff, q0, q1, q7, q8, q9, q10, q11, h1', endK, rsC, rsV, resV]
    rw [hd]
    exact ⟨rfl, he⟩
  rw [dif_neg h1] at hd
  have h1' : ¬ (l.length : Int) ≤ pos := by omega
  have ia := fun (L : List Lv) (g : Nat) => Byt.ia hs (j := pos) (by omega) (by omega) L g
  rw [toNat_nat] at ia
  obtain ⟨z1, z2, -⟩ := ia [] 0
  have hb := (l.getD pos 0).toNat_lt
  have w0 := i64b (l.getD pos 0)
  have w1 : IntKind.i64.wrap ((pos : Int) + 1) = ((pos + 1 : Nat) : Int) := by rw [w64 (by omega) (by omega)]; rfl
  by_cases h2 : (l.getD pos 0).toNat = 0
  · rw [if_pos h2] at hd
    have h2' : (((l.getD pos 0).toNat : Int) = 0) = True := eq_true (by omega)
    obtain ⟨v2, H2, k2, rfl, e2⟩ := hJ o acc H' hm.sl (by omega) hax
    cases nx with
    | none =>
      simp only [nxV] at q10
      simp -implicitDefEqProofs only [bU, reduceIte, Nat.reduceEqDiff, reduceCtorEq, implies_true, forall_const, eq_self, Nat.reduceAdd, Nat.reduceLT, bne_self_eq_false, bT, eq_self, true_implies, false_implies, forall_const, if_true, if_false, Int.reduceToNat, Nat.reduceSub, Int.reduceLE, bV, Nat.reduceAdd, Nat.reduceLT, Nat.reduceLeDiff, Nat.reduceLeDiff, q0, q1, q7, q8, q9, q10, q11, h1', toNat_nat, z1, z2, ia, w0, w1, h2', Int.reduceLT, oo, k2, endK, rsC, rsV, resV]
      rw [hd]
      exact ⟨rfl, he.trans e2⟩
    | some k =>
      simp only [nxV] at q10
      have hk : ¬ (k : Int) < 0 := by omega
      simp -implicitDefEqProofs only [bU, reduceIte, Nat.reduceEqDiff, reduceCtorEq, implies_true, forall_const, eq_self, Nat.reduceAdd, Nat.reduceLT, bne_self_eq_false, bT, eq_self, true_implies, false_implies, forall_const, if_true, if_false, Int.reduceToNat, Nat.reduceSub, Int.reduceLE, bV, Nat.reduceAdd, Nat.reduceLT, Nat.reduceLeDiff, Nat.reduceLeDiff, q0, q1, q7, q8, q9, q10, q11, h1', toNat_nat, z1, z2, ia, w0, w1, h2', hk, oo, k2, endK, rsC, rsV, resV]
      rw [hd]
      exact ⟨rfl, he.trans e2⟩
  rw [if_neg h2] at hd
  have h2' : ¬ ((l.getD pos 0).toNat : Int) = 0 := by omega
  by_cases h3 : 192 ≤ (l.getD pos 0).toNat
  · rw [if_pos h3] at hd
    have g3 : (192 : Int) ≤ ((l.getD pos 0).toNat : Int) := by omega
    by_cases h4 : l.length ≤ pos + 1
    · rw [if_pos h4] at hd
      have h4' : (l.length : Int) ≤ ((pos + 1 : Nat) : Int) := by omega
      simp -implicitDefEqProofs only [bU, reduceIte, Nat.reduceEqDiff, reduceCtorEq, implies_true, forall_const, eq_self, Nat.reduceAdd, Nat.reduceLT, bne_self_eq_false, bT, eq_self, true_implies, false_implies, forall_const, if_true, if_false, Int.reduceToNat, Nat.reduceSub, Int.reduceLE, bV, Nat.reduceAdd, Nat.reduceLT, Nat.reduceLeDiff, Nat.reduceLeDiff, q0, q1, q7, q8, q9, q10, q11, h1', toNat_nat, z1, z2, ia, w0, w1, h2', g3, h4', endK, rsC, rsV, resV]
      rw [hd]
      exact ⟨rfl, he⟩
    rw [if_neg h4] at hd
    have h4' : ¬ (l.length : Int) ≤ ((pos + 1 : Nat) : Int) := by omega
    have ib := fun (L : List Lv) (g : Nat) => Byt.ia hs (j := (pos + 1 : Nat)) (by omega) (by omega) L g
    rw [toNat_nat] at ib
    obtain ⟨y1, y2, -⟩ := ib [] 0
    have hb2 := (l.getD (pos + 1) 0).toNat_lt
    have w2 := i64b (l.getD (pos + 1) 0)
    have f1 : IntKind.i64.wrap (((l.getD pos 0).toNat : Int) - 192) = (((l.getD pos 0).toNat - 192 : Nat) : Int) := by rw [w64 (by omega) (by omega)]; omega
    have f2 : IntKind.i64.wrap ((((l.getD pos 0).toNat - 192 : Nat) : Int) * 256) = ((((l.getD pos 0).toNat - 192) * 256 : Nat) : Int) := by rw [w64 (by omega) (by omega)]; omega
    have f3 : IntKind.i64.wrap (((((l.getD pos 0).toNat - 192) * 256 : Nat) : Int) + ((l.getD (pos + 1) 0).toNat : Int)) = ((((l.getD pos 0).toNat - 192) * 256 + (l.getD (pos + 1) 0).toNat : Nat) : Int) := by rw [w64 (by omega) (by omega)]; omega
    generalize hoff : ((l.getD pos 0).toNat - 192) * 256 + (l.getD (pos + 1) 0).toNat = off at hd f3
    by_cases h5 : start ≤ off
    · rw [dif_pos h5] at hd
      have h5' : (start : Int) ≤ off := by omega
      simp -implicitDefEqProofs only [bU, reduceIte, Nat.reduceEqDiff, reduceCtorEq, implies_true, forall_const, eq_self, Nat.reduceAdd, Nat.reduceLT, bne_self_eq_false, bT, eq_self, true_implies, false_implies, forall_const, if_true, if_false, Int.reduceToNat, Nat.reduceSub, Int.reduceLE, bV, Nat.reduceAdd, Nat.reduceLT, Nat.reduceLeDiff, Nat.reduceLeDiff, q0, q1, q7, q8, q9, q10, q11, h1', toNat_nat, z1, z2, ia, w0, w1, h2', g3, h4', y1, y2, ib, w2, f1, f2, f3, h5', endK, rsC, rsV, resV]
      rw [hd]
      exact ⟨rfl, he⟩
    rw [dif_neg h5] at hd
    have h5' : ¬ (start : Int) ≤ off := by omega
    have hm2 := dnM_ptr (b := l) (pos := pos) (Nat.lt_of_not_le h5)
    have w3 : IntKind.i64.wrap ((pos : Int) + 2) = ((pos + 2 : Nat) : Int) := by rw [w64 (by omega) (by omega)]; rfl
    cases nx with
    | none =>
      simp only [nxV] at q10
      simp -implicitDefEqProofs only [bU, reduceIte, Nat.reduceEqDiff, reduceCtorEq, implies_true, forall_const, eq_self, Nat.reduceAdd, Nat.reduceLT, bne_self_eq_false, bT, eq_self, true_implies, false_implies, forall_const, if_true, if_false, Int.reduceToNat, Nat.reduceSub, Int.reduceLE, bV, Nat.reduceAdd, Nat.reduceLT, Nat.reduceLeDiff, Nat.reduceLeDiff, q0, q1, q7, q8, q9, q10, q11, h1', toNat_nat, z1, z2, ia, w0, w1, h2', g3, h4', y1, y2, ib, w2, f1, f2, f3, h5', w3, Int.reduceLT]
      exact ⟨_, hm2, off, off, some (pos + 2), acc, o, H', _, _, by omega, by omega, rfl, rfl, rfl, rfl, rfl, rfl, rfl, hm, hol, hal, hax, he, hid, fun k hk => by injection hk with hk; omega, hd⟩
    | some k =>
      simp only [nxV] at q10
      have hk : ¬ (k : Int) < 0 := by omega
      simp -implicitDefEqProofs only [bU, reduceIte, Nat.reduceEqDiff, reduceCtorEq, implies_true, forall_const, eq_self, Nat.reduceAdd, Nat.reduceLT, bne_self_eq_false, bT, eq_self, true_implies, false_implies, forall_const, if_true, if_false, Int.reduceToNat, Nat.reduceSub, Int.reduceLE, bV, Nat.reduceAdd, Nat.reduceLT, Nat.reduceLeDiff, Nat.reduceLeDiff, q0, q1, q7, q8, q9, q10, q11, h1', toNat_nat, z1, z2, ia, w0, w1, h2', g3, h4', y1, y2, ib, w2, f1, f2, f3, h5', hk]
      exact ⟨_, hm2, off, off, some k, acc, o, H', _, _, by omega, by omega, rfl, rfl, rfl, rfl, rfl, rfl, rfl, hm, hol, hal, hax, he, hid, hnx, hd⟩
  rw [if_neg h3] at hd
  have g3 : ¬ (192 : Int) ≤ ((l.getD pos 0).toNat : Int) := by omega
  by_cases h6 : 63 < (l.getD pos 0).toNat
  · rw [if_pos h6] at hd
    have g4 : (63 : Int) < ((l.getD pos 0).toNat : Int) := by omega
    simp -implicitDefEqProofs only [bU, reduceIte, Nat.reduceEqDiff, reduceCtorEq, implies_true, forall_const, eq_self, Nat.reduceAdd, Nat.reduceLT, bne_self_eq_false, bT, eq_self, true_implies, false_implies, forall_const, if_true, if_false, Int.reduceToNat, Nat.reduceSub, Int.reduceLE, bV, Nat.reduceAdd, Nat.reduceLT, Nat.reduceLeDiff, Nat.reduceLeDiff, q0, q1, q7, q8, q9, q10, q11, h1', toNat_nat, z1, z2, ia, w0, w1, h2', g3, g4, endK, rsC, rsV, resV]
    rw [hd]
    exact ⟨rfl, he⟩
  rw [if_neg h6] at hd
  have g4 : ¬ (63 : Int) < ((l.getD pos 0).toNat : Int) := by omega
  have w2 : IntKind.i64.wrap (((pos + 1 : Nat) : Int) + ((l.getD pos 0).toNat : Int)) = ((pos + 1 + (l.getD pos 0).toNat : Nat) : Int) := by rw [w64 (by omega) (by omega)]; omega
  by_cases h7 : l.length < pos + 1 + (l.getD pos 0).toNat
  · rw [if_pos h7] at hd
    have h7' : (l.length : Int) < ((pos + 1 + (l.getD pos 0).toNat : Nat) : Int) := by omega
    simp -implicitDefEqProofs only [bU, reduceIte, Nat.reduceEqDiff, reduceCtorEq, implies_true, forall_const, eq_self, Nat.reduceAdd, Nat.reduceLT, bne_self_eq_false, bT, eq_self, true_implies, false_implies, forall_const, if_true, if_false, Int.reduceToNat, Nat.reduceSub, Int.reduceLE, bV, Nat.reduceAdd, Nat.reduceLT, Nat.reduceLeDiff, Nat.reduceLeDiff, q0, q1, q7, q8, q9, q10, q11, h1', toNat_nat, z1, z2, ia, w0, w1, h2', g3, g4, w2, h7', endK, rsC, rsV, resV]
    rw [hd]
    exact ⟨rfl, he⟩
  rw [if_neg h7] at hd
  have h7' : ¬ (l.length : Int) < ((pos + 1 + (l.getD pos 0).toNat : Nat) : Int) := by omega
  have w3 : IntKind.i64.wrap ((((joinP acc).length + 1 : Nat) : Int) + 1) = (((joinP acc).length + 1 + 1 : Nat) : Int) := by rw [w64 (by omega) (by omega)]; omega
  have w4 : IntKind.i64.wrap ((((joinP acc).length + 1 + 1 : Nat) : Int) + ((l.getD pos 0).toNat : Int)) = (((joinP acc).length + 1 + (l.getD pos 0).toNat + 1 : Nat) : Int) := by rw [w64 (by omega) (by omega)]; omega
  by_cases h8 : 255 < (joinP acc).length + 1 + (l.getD pos 0).toNat + 1
  · rw [if_pos h8] at hd
    have h8' : (255 : Int) < (((joinP acc).length + 1 + (l.getD pos 0).toNat + 1 : Nat) : Int) := by omega
    simp -implicitDefEqProofs only [bU, reduceIte, Nat.reduceEqDiff, reduceCtorEq, implies_true, forall_const, eq_self, Nat.reduceAdd, Nat.reduceLT, bne_self_eq_false, bT, eq_self, true_implies, false_implies, forall_const, if_true, if_false, Int.reduceToNat, Nat.reduceSub, Int.reduceLE, bV, Nat.reduceAdd, Nat.reduceLT, Nat.reduceLeDiff, Nat.reduceLeDiff, q0, q1, q7, q8, q9, q10, q11, h1', toNat_nat, z1, z2, ia, w0, w1, h2', g3, g4, w2, h7', w3, w4, h8', endK, rsC, rsV, resV]
    rw [hd]
    exact ⟨rfl, he⟩
  rw [if_neg h8] at hd
  have h8' : ¬ (255 : Int) < (((joinP acc).length + 1 + (l.getD pos 0).toNat + 1 : Nat) : Int) := by omega
  have hm3 := dnM_lab (b := l) (pos := pos) (start := start) (k := 1 + (l.getD pos 0).toNat) (by omega) (by omega)
  rw [← Nat.add_assoc] at hm3
  obtain ⟨t1, t2, t3⟩ := hs.sub hc' (lo := (pos + 1 : Nat)) (hi := (pos + 1 + (l.getD pos 0).toNat : Nat)) (by omega) (by omega) (by rw [enc_len]; omega)
  have hcl : ((encB l).drop ((pos + 1 : Nat) : Int).toNat).take (((pos + 1 + (l.getD pos 0).toNat : Nat) : Int).toNat - ((pos + 1 : Nat) : Int).toNat) = encB ((l.drop (pos + 1)).take (l.getD pos 0).toNat) := by
    rw [toNat_nat, toNat_nat, Nat.add_sub_cancel_left, enc_drop, enc_take]
  rw [hcl, toNat_nat, toNat_nat] at t3
  obtain ⟨c1, c2⟩ := Byt.cbs t3
  have hsl : ((l.drop (pos + 1)).take (l.getD pos 0).toNat).length = (l.getD pos 0).toNat := by rw [List.length_take, List.length_drop]; omega
  obtain ⟨u1, o', H2, u2, u3, u4, u5, u6, u7, -⟩ := Mn.ap (by' := 16) hm (lit_srcS (t := 91) (g := g) (x := (l.drop (pos + 1)).take (l.getD pos 0).toNat) (L := dropL (keepL [0, 1, 7, 8, 9, 10, 11] L) 91) (H := H')) (by rw [List.length_map]; simp only [List.length_singleton]; omega)
  have hj : joinP acc ++ (l.drop pos).take (1 + (l.getD pos 0).toNat) = joinP (acc ++ [(l.drop (pos + 1)).take (l.getD pos 0).toNat]) := by
    have e : l.getD pos 0 = l[pos]'(by omega) := by simp [List.getD, List.getElem?_eq_getElem (show pos < l.length by omega)]
    rw [joinP_app, joinP, hsl, joinP, List.append_nil, UInt8.ofNat_toNat, List.drop_eq_getElem_cons (by omega), Nat.add_comm 1, List.take_succ_cons, e]
  have hjl : (joinP (acc ++ [(l.drop (pos + 1)).take (l.getD pos 0).toNat])).length = (joinP acc).length + 1 + (l.getD pos 0).toNat := by
    rw [joinP_app, joinP, hsl, joinP, List.append_nil, List.length_append, List.length_cons, hsl]; omega
  rw [hj] at hd
  simp -implicitDefEqProofs only [bU, reduceIte, Nat.reduceEqDiff, reduceCtorEq, implies_true, forall_const, eq_self, Nat.reduceAdd, Nat.reduceLT, bne_self_eq_false, bT, eq_self, true_implies, false_implies, forall_const, if_true, if_false, Int.reduceToNat, Nat.reduceSub, Int.reduceLE, bV, Nat.reduceAdd, Nat.reduceLT, Nat.reduceLeDiff, Nat.reduceLeDiff, q0, q1, q7, q8, q9, q10, q11, h1', toNat_nat, z1, z2, ia, w0, w1, h2', g3, g4, w2, h7', w3, w4, h8', t1, t2, c1, c2, fillEC, fillE, List.replicate, List.set]
  simp -implicitDefEqProofs only [bU, reduceIte, Nat.reduceEqDiff, reduceCtorEq, implies_true, forall_const, eq_self, Nat.reduceAdd, Nat.reduceLT, bne_self_eq_false, bT, eq_self, true_implies, false_implies, forall_const, if_true, if_false, Int.reduceToNat, Nat.reduceSub, Int.reduceLE, bV, Nat.reduceAdd, Nat.reduceLT, Nat.reduceLeDiff, Nat.reduceLeDiff, u1, u2, u3, q0, q1, w1, w2]
  refine ⟨l2, _, hm3, pos + 1 + (l.getD pos 0).toNat, start, nx, acc ++ [(l.drop (pos + 1)).take (l.getD pos 0).toNat], o', H2, _, _, hst, by omega, rfl, rfl, rfl, ?_, rfl, rfl, rfl, ?_, by omega, ?_, ?_, Kp.put he ⟨u5, fun i hi hn => u6 i hi hn⟩ hid, fun k hk => (u7 k hk).elim (hid k) fun h => by have := he.n; omega, hnx, hd⟩
  · rw [hjl]
  · rw [List.map_append]; exact u4
  · rw [hjl, List.length_append, List.length_singleton]; omega
  · intro x hx
    rcases List.mem_append.1 hx with hx | hx
    · exact hax x hx
    · rw [List.mem_singleton.1 hx, hsl]; omega
end
end Go.Vm
/- Functions' code as literals of the abstract machine, printed by wip/tools/lits.py; the kernel checks each against the translation. -/
namespace Go.Vm
set_option linter.unusedVariables false
set_option linter.unusedSimpArgs false
end Go.Vm
/- Valid records and messages: both sides. -/
namespace Go.Vm
set_option linter.unusedVariables false
set_option linter.unusedSimpArgs false
section
variable {C : Tab}
end
end Go.Vm
/- Valid messages: both sides. -/
namespace Go.Vm
set_option linter.unusedVariables false
set_option linter.unusedSimpArgs false
section
variable {C : Tab}
end
end Go.Vm
/- Valid messages: the program's side. -/
namespace Go.Vm
set_option linter.unusedVariables false
set_option linter.unusedSimpArgs false
section
variable {C : Tab}
end
end Go.Vm
/- Functions' code as literals of the abstract machine, printed by wip/tools/lits.py; the kernel checks each against the translation. -/
namespace Go.Vm
set_option linter.unusedVariables false
set_option linter.unusedSimpArgs false
/-- loop.example/s01858/spec.l04Pointed -/
def c_spec_l04Pointed : Fn := ⟨1, [(.t 2)],
    .q (.o [.mv 2 (.c (.b false))])
    (.q (.q (.o [.mv 3 (.t 0)])
    (.b 0 (.q (.q (.o [.bn 5 .eql (.t 3) (.c (.i .i64 2)),
      .mv 4 (.t 5)])
    (.i (.t 4) (.k)
    (.q (.o [.bn 6 .eql (.t 3) (.c (.i .i64 5)),
      .mv 4 (.t 6)])
    (.i (.t 4) (.k)
    (.q (.o [.bn 7 .eql (.t 3) (.c (.i .i64 6)),
      .mv 4 (.t 7)])
    (.i (.t 4) (.k)
    (.q (.o [.bn 8 .eql (.t 3) (.c (.i .i64 12)),
      .mv 4 (.t 8)])
    (.i (.t 4) (.k)
    (.o [.bn 9 .eql (.t 3) (.c (.i .i64 15)),
      .mv 4 (.t 9)])))))))))
    (.i (.t 4) (.q (.o [.mv 2 (.c (.b true))])
    (.r))
    (.k)))))
    (.q (.o [.mv 2 (.c (.b false))])
    (.r)))⟩
abbrev n_spec_l04Pointed : Nat := 125
theorem k_spec_l04Pointed : chkF Go.Proofs.Tryd.prog c_spec_l04Pointed 125 = true := by kernel_rfl
end Go.Vm
/- The specification's writer of messages: its state; texts and names written. -/
namespace Go.Vm
set_option linter.unusedVariables false
set_option linter.unusedSimpArgs false
/-! What is written, plainly. -/
def wrTxt (s : EncSt) (t : List UInt8) : EncSt := (s.1 ++ t, s.2)
def eP : Enc (List UInt8 × Nat) := ⟨2, fun p => [.s p.1, .i .i64 (p.2 : Nat)], fun _ => rfl⟩
structure WS (H : AH) (n0 pid : Nat) (s : EncSt) : Prop where
  ex : ∃ bv pl, Obj1 H pid [bv, pl] ∧ Mb H bv s.1 ∧ Mx H eP pl s.2 ∧ ¬ pid ∈ idA bv ∧ ¬ pid ∈ idA pl ∧ Dj bv pl ∧ (∀ i, i ∈ idA bv → n0 ≤ i) ∧ ∀ i, i ∈ idA pl → n0 ≤ i
  ge : n0 ≤ pid
theorem WS.ext {H H' : AH} {n0 pid : Nat} {s : EncSt} (h : WS H n0 pid s) (he : Ext H H') : WS H' n0 pid s := by
  obtain ⟨⟨bv, pl, h1, h2, h3, h4⟩, h6⟩ := h
  exact ⟨⟨bv, pl, h1.ext he, Mn.ext h2 he, Mn.ext h3 he, h4⟩, h6⟩
theorem WS.lt {H : AH} {n0 pid : Nat} {s : EncSt} (h : WS H n0 pid s) : pid < H.n ∧ n0 ≤ H.n := by
  obtain ⟨⟨bv, pl, h1, -⟩, h6⟩ := h
  exact ⟨h1.lt, Nat.le_trans h6 (Nat.le_of_lt h1.lt)⟩
/-! What a writer may change: its object and what that leads to. -/
def idsA : AV → List Nat
  | .sl id _ _ => [id]
  | .mp id => [id]
  | _ => []
theorem idA_ids {a : AV} {i : Nat} (h : i ∈ idA a) : i ∈ idsA a := by cases a <;> first | exact h | cases h
theorem Mn.ids {H : AH} {z : Nat} {a : AV} {els : List AV} (h : Mn H z a els) : idsA a = idA a := by cases h <;> rfl
theorem Sl.ids {H : AH} {z : Nat} {a : AV} {els : List AV} (h : Sl H z a els) : idsA a = idA a := by cases h <;> rfl
def Fp (H : AH) (pid i : Nat) : Prop := i = pid ∨ ∃ cs, Obj1 H pid cs ∧ ∃ a, a ∈ cs ∧ i ∈ idsA a
structure Wk (pid : Nat) (H H' : AH) : Prop where
  n : H.n ≤ H'.n
  at' : ∀ i, i < H.n → ¬ Fp H pid i → H'.at' i = H.at' i
  fp : ∀ i, Fp H' pid i → Fp H pid i ∨ H.n ≤ i
theorem Wk.refl (pid : Nat) (H : AH) : Wk pid H H := ⟨Nat.le_refl _, fun _ _ _ => rfl, fun _ h => .inl h⟩
theorem Wk.trans {pid : Nat} {H H1 H2 : AH} (h : Wk pid H H1) (h' : Wk pid H1 H2) : Wk pid H H2 :=
  ⟨Nat.le_trans h.n h'.n, fun i hi hf => (h'.at' i (Nat.lt_of_lt_of_le hi h.n) fun hh => (h.fp i hh).elim hf fun _ => by omega).trans (h.at' i hi hf),
   fun i hi => (h'.fp i hi).elim (h.fp i) fun hh => .inr (Nat.le_trans h.n hh)⟩
theorem Obj1.same {H : AH} {pid : Nat} {cs cs' : List AV} (h : Obj1 H pid cs) (h' : Obj1 H pid cs') : cs = cs' := by
  have := h.at'.symm.trans h'.at'
  injection this with _ _ _ h4
  simpa using h4
theorem Wk.mk' {pid off : Nat} {H H' : AH} {cs : List AV} {av av' : AV} (ho : Obj1 H pid cs) (ho' : Obj1 H' pid (cs.set off av')) (hc : cs[off]? = some av) (hn : H.n ≤ H'.n) (ha : ∀ i, i < H.n → i ≠ pid → ¬ i ∈ idsA av → H'.at' i = H.at' i)
    (hi : ∀ i, i ∈ idsA av' → i ∈ idsA av ∨ H.n ≤ i) : Wk pid H H' := by
  have hav : av ∈ cs := List.mem_of_getElem? hc
  refine ⟨hn, fun i h1 h2 => ha i h1 (fun e => h2 (.inl e)) fun hh => h2 (.inr ⟨cs, ho, av, hav, hh⟩), fun i h => ?_⟩
  rcases h with h | ⟨cs', hcs, a, ha', hia⟩
  · exact .inl (.inl h)
  · have := hcs.same ho'
    subst this
    rcases List.mem_or_eq_of_mem_set ha' with h3 | rfl
    · exact .inl (.inr ⟨cs, ho, a, h3, hia⟩)
    · rcases hi i hia with h4 | h4
      · exact .inl (.inr ⟨cs, ho, av, hav, h4⟩)
      · exact .inr h4
/-- Others live on. -/
theorem Wk.sl {pid z : Nat} {H H' : AH} {a : AV} {els : List AV} (h : Wk pid H H') (hs : Sl H z a els) (hd : ∀ i, i ∈ idA a → ¬ Fp H pid i) : Sl H' z a els := hs.fr h.n fun i hi => h.at' i (hs.lt i hi) (hd i hi)
theorem Wk.bl {pid n0 : Nat} {H H' : AH} (h : Wk pid H H') (hn : n0 ≤ H.n) (hf : ∀ i, Fp H pid i → n0 ≤ i) : Bl n0 H H' := ⟨h.n, fun i hi => h.at' i (by omega) fun hh => by have := hf i hh; omega⟩
theorem WS.fp {H : AH} {n0 pid : Nat} {s : EncSt} (h : WS H n0 pid s) : ∀ i, Fp H pid i → n0 ≤ i := by
  obtain ⟨⟨bv, pl, h1, h2, h3, h4, h5, h6, h7, h8⟩, hge⟩ := h
  rintro i (rfl | ⟨cs, hcs, a, ha, hi⟩)
  · exact hge
  · have := hcs.same h1
    subst this
    simp only [List.mem_cons, List.not_mem_nil, or_false] at ha
    rcases ha with rfl | rfl
    · exact h7 i (by rw [← Mn.ids h2]; exact hi)
    · exact h8 i (by rw [← Mn.ids h3]; exact hi)
/-- A row in an object's field, appended to and laid back. -/
theorem fld_ap {H : AH} {pid z by' off : Nat} {cs els ys : List AV} {av : AV} (ho : Obj1 H pid cs) (hoff : off < cs.length) (hm : Mn H z av els) (hp : ¬ pid ∈ idA av) (hc : cs[off]? = some av) {y : AV} (hb : (els.length + ys.length) * by' ≤ 140737488355328)
    {L : List Lv} {g : Nat} (hy : srcV ⟨L, g, H⟩ y = ys ∧ srcC ⟨L, g, H⟩ z y) : apC ⟨L, g, H⟩ z by' y av ∧ ∃ av' H1, apV ⟨L, g, H⟩ y av = av' ∧ apM ⟨L, g, H⟩ z y av = ⟨L, g, H1⟩ ∧ av'.outs = true ∧ av'.cells = [av'] ∧
      (∀ (L : List Lv) (g : Nat), stC ⟨L, g, H1⟩ av' (.pv pid off)) ∧ ∃ H2, (∀ (L : List Lv) (g : Nat), stM ⟨L, g, H1⟩ av' (.pv pid off) = ⟨L, g, H2⟩) ∧ Obj1 H2 pid (cs.set off av') ∧ Mn H2 z av' (els ++ ys) ∧ H.n ≤ H2.n ∧ (∀ i, i < H.n → i ≠ pid → ¬ i ∈ idA av → H2.at' i = H.at' i) ∧ (∀ i, i ∈ idA av' → i ∈ idA av ∨ H.n ≤ i) ∧ Wk pid H H2 := by
  obtain ⟨p1, av', H1, p2, p3, p4, p5, p6, p7, -⟩ := Mn.ap (by' := by') hm hy hb
  have ob1 : Obj1 H1 pid cs := ho.fr p5 (p6 _ ho.lt hp)
  have hpid : ¬ pid ∈ idA av' := fun hh => by
    rcases p7 _ hh with hh | hh
    · exact hp hh
    · have := ho.lt; omega
  have hone := p4.sl.one
  obtain ⟨q1, H2, q2, q3, q4, q5⟩ := ob1.st (off := off) (v := av') hoff hone
  refine ⟨p1, av', H1, p2, p3, p4.sl.out, hone, q1, H2, q2, q3, p4.fr (Nat.le_of_eq q4.symm) (fun i hi => q5 i fun hm => by simp only [List.mem_singleton] at hm; subst hm; exact hpid hi), by omega, fun i h1 h2 h3 => ?_, p7, .mk' ho q3 hc (by omega) (fun i h1 h2 h3 => ?_) fun i hi => ?_⟩
  · rw [q5 i (by simpa using h2), p6 i h1 h3]
  · rw [q5 i (by simpa using h2), p6 i h1 fun hh => h3 (idA_ids hh)]
  · rcases p7 i (by rw [← Mn.ids p4]; exact hi) with h | h
    · exact .inl (idA_ids h)
    · exact .inr h
theorem WS.apB {H : AH} {n0 pid : Nat} {s : EncSt} (h : WS H n0 pid s) {y : AV} {t : List UInt8} (hl : s.1.length + t.length ≤ 1099511627776) : ∃ bv pl, Obj1 H pid [bv, pl] ∧ Mb H bv s.1 ∧
    ∀ (L : List Lv) (g : Nat), (srcV ⟨L, g, H⟩ y = encB t ∧ srcC ⟨L, g, H⟩ 1 y) → apC ⟨L, g, H⟩ 1 1 y bv ∧ ∃ bv' H1, apV ⟨L, g, H⟩ y bv = bv' ∧ apM ⟨L, g, H⟩ 1 y bv = ⟨L, g, H1⟩ ∧ bv'.outs = true ∧ bv'.cells = [bv'] ∧
      (∀ (L : List Lv) (g : Nat), stC ⟨L, g, H1⟩ bv' (.pv pid 0)) ∧ ∃ H2, (∀ (L : List Lv) (g : Nat), stM ⟨L, g, H1⟩ bv' (.pv pid 0) = ⟨L, g, H2⟩) ∧ WS H2 n0 pid (wrTxt s t) ∧ Wk pid H H2 := by
  obtain ⟨⟨bv, pl, h1, h2, h3, h4, h5, h6, h7, h8⟩, hge⟩ := h
  refine ⟨bv, pl, h1, h2, fun L g hy => ?_⟩
  obtain ⟨a1, bv', H1, a2, a3, a4, a5, a6, H2, a7, a8, a9, b1, b2, b3, b4⟩ := fld_ap (by' := 1) h1 (off := 0) (by simp) h2 h4 rfl (by simp; omega) hy
  refine ⟨a1, bv', H1, a2, a3, a4, a5, a6, H2, a7, ⟨⟨bv', pl, a8, ?_, ?_, fun hh => ?_, h5, fun i hi hj => ?_, fun i hi => ?_, h8⟩, hge⟩, b4⟩
  · show Mn H2 1 bv' (encB (s.1 ++ t)); rw [enc_app]; exact a9
  · exact Mn.fr h3 b1 fun i hi => b2 i (h3.lt i hi) (fun e => h5 (e ▸ hi)) (fun hh => h6 i hh hi)
  · rcases b3 _ hh with hh | hh
    · exact h4 hh
    · have := h1.lt; omega
  · rcases b3 _ hi with hh | hh
    · exact h6 i hh hj
    · have := h3.lt i hj; omega
  · rcases b3 _ hi with hh | hh
    · exact h7 i hh
    · have := h1.lt; omega
section
variable {C : Tab}
end
end Go.Vm
/- The specification's writer of messages: names. -/
namespace Go.Vm
set_option linter.unusedVariables false
set_option linter.unusedSimpArgs false
section
variable {C : Tab}
end
end Go.Vm
/- The specification's writer of messages: heads, questions; what is written, plainly. -/
namespace Go.Vm
set_option linter.unusedVariables false
set_option linter.unusedSimpArgs false
/-! Plainly. -/
def T_pointed (C : Tab) (f : Nat) : Prop := ∀ (t : Int) (H : AH), C f [.i .i64 t] H = some (.b (hasP t), H)
section
variable {C : Tab}
theorem r_pointed {t : Int} {H : AH} : Runs C c_spec_l04Pointed [.i .i64 t] H fun v H' => H' = H ∧ v = .b (hasP t) := by
  unfold Runs c_spec_l04Pointed
  by_cases h2 : t = 2
  · subst h2; simp -implicitDefEqProofs only [bU, reduceIte, Nat.reduceEqDiff, reduceCtorEq, implies_true, forall_const, eq_self, Nat.reduceAdd, Nat.reduceLT, bne_self_eq_false, bT, eq_self, true_implies, false_implies, forall_const, if_true, if_false, Int.reduceToNat, Nat.reduceSub, Int.reduceLE, Int.reduceEq, endK, rsC, rsV, resV]; rfl
  by_cases h5 : t = 5
  · subst h5; simp -implicitDefEqProofs only [bU, reduceIte, Nat.reduceEqDiff, reduceCtorEq, implies_true, forall_const, eq_self, Nat.reduceAdd, Nat.reduceLT, bne_self_eq_false, bT, eq_self, true_implies, false_implies, forall_const, if_true, if_false, Int.reduceToNat, Nat.reduceSub, Int.reduceLE, Int.reduceEq, endK, rsC, rsV, resV]; rfl
  by_cases h6 : t = 6
  · subst h6; simp -implicitDefEqProofs only [bU, reduceIte, Nat.reduceEqDiff, reduceCtorEq, implies_true, forall_const, eq_self, Nat.reduceAdd, Nat.reduceLT, bne_self_eq_false, bT, eq_self, true_implies, false_implies, forall_const, if_true, if_false, Int.reduceToNat, Nat.reduceSub, Int.reduceLE, Int.reduceEq, endK, rsC, rsV, resV]; rfl
  by_cases h12 : t = 12
  · subst h12; simp -implicitDefEqProofs only [bU, reduceIte, Nat.reduceEqDiff, reduceCtorEq, implies_true, forall_const, eq_self, Nat.reduceAdd, Nat.reduceLT, bne_self_eq_false, bT, eq_self, true_implies, false_implies, forall_const, if_true, if_false, Int.reduceToNat, Nat.reduceSub, Int.reduceLE, Int.reduceEq, endK, rsC, rsV, resV]; rfl
  by_cases h15 : t = 15
  · subst h15; simp -implicitDefEqProofs only [bU, reduceIte, Nat.reduceEqDiff, reduceCtorEq, implies_true, forall_const, eq_self, Nat.reduceAdd, Nat.reduceLT, bne_self_eq_false, bT, eq_self, true_implies, false_implies, forall_const, if_true, if_false, Int.reduceToNat, Nat.reduceSub, Int.reduceLE, Int.reduceEq, endK, rsC, rsV, resV]; rfl
  have e : hasP t = false := by simp [hasP, h2, h5, h6, h12, h15]
  rw [e]
  simp -implicitDefEqProofs only [bU, reduceIte, Nat.reduceEqDiff, reduceCtorEq, implies_true, forall_const, eq_self, Nat.reduceAdd, Nat.reduceLT, bne_self_eq_false, bT, eq_self, true_implies, false_implies, forall_const, if_true, if_false, Int.reduceToNat, Nat.reduceSub, Int.reduceLE, h2, h5, h6, h12, h15, endK, rsC, rsV, resV]
end
end Go.Vm
/- The specification's writer of messages: a record. -/
namespace Go.Vm
set_option linter.unusedVariables false
set_option linter.unusedSimpArgs false
section
variable {C : Tab}
end
end Go.Vm
/- The specification's writer of messages: whole messages. -/
namespace Go.Vm
set_option linter.unusedVariables false
set_option linter.unusedSimpArgs false
section
variable {C : Tab}
end
end Go.Vm
/- Records within a message: what is read of them; the specification's readers. -/
namespace Go.Vm
set_option linter.unusedVariables false
set_option linter.unusedSimpArgs false
/-- Data that may have pointers: cut by its form from a place to an end. -/
def ptGo (l : List UInt8) (e : Nat) : List UInt8 → Nat → List UInt8 → Except Int (List UInt8)
  | [], p, out => if p = e then .ok out else .error 7
  | f :: fs, p, out => if f = 98 then (if e ≤ p then .error 7 else ptGo l e fs (p + 1) (out ++ [l.getD p 0])) else match dn l p p none [] with
    | .error c => .error c
    | .ok (s, q) => if e < q then .error 7 else ptGo l e fs q (out ++ s)
def datR (l : List UInt8) (t : Int) (p e : Nat) : Except Int (List UInt8) :=
  if p = e then .ok [] else if hasP t then ptGo l e (specForm t) p [] else if chk t ((l.drop p).take (e - p)) = 0 then .ok ((l.drop p).take (e - p)) else .error 7
def recR (l : List UInt8) (p : Nat) : Except Int (Rr × Nat) := match dn l p p none [] with
  | .error c => .error c
  | .ok (o, q) => if l.length < q + 10 then .error 8 else if l.length < q + 10 + b2 l (q + 8) then .error 8 else match datR l (b2 l q : Nat) (q + 10) (q + 10 + b2 l (q + 8)) with
    | .error c => .error c
    | .ok d => .ok (⟨o, (b2 l q : Nat), (b2 l (q + 2) : Nat), (num ((l.drop (q + 4)).take 4) 0 : Nat), d⟩, q + 10 + b2 l (q + 8))
theorem ptGo_e {l : List UInt8} {e : Nat} : ∀ {fs : List UInt8} {p : Nat} {out : List UInt8} {c : Int}, ptGo l e fs p out = .error c → c ≠ 0
  | [], p, out, c, h => by
    rw [ptGo] at h
    split at h
    · cases h
    · injection h with h; omega
  | f :: fs, p, out, c, h => by
    rw [ptGo] at h
    by_cases hf : f = 98
    · rw [if_pos hf] at h
      by_cases hp : e ≤ p
      · rw [if_pos hp] at h; injection h with h; omega
      · rw [if_neg hp] at h; exact ptGo_e h
    · rw [if_neg hf] at h
      cases hd : dn l p p none [] with
      | error c' => rw [hd] at h; injection h with h; subst h; exact dn_e hd
      | ok r =>
        obtain ⟨s, q⟩ := r
        rw [hd] at h
        simp only at h
        by_cases hq : e < q
        · rw [if_pos hq] at h; injection h with h; omega
        · rw [if_neg hq] at h; exact ptGo_e h
theorem datR_e {l : List UInt8} {t : Int} {p e : Nat} {c : Int} (h : datR l t p e = .error c) : c ≠ 0 := by
  unfold datR at h
  split at h
  · cases h
  · split at h
    · exact ptGo_e h
    · split at h
      · cases h
      · injection h with h; omega
theorem recR_e {l : List UInt8} {p : Nat} {c : Int} (h : recR l p = .error c) : c ≠ 0 := by
  unfold recR at h
  cases hd : dn l p p none [] with
  | error c' => rw [hd] at h; injection h with h; subst h; exact dn_e hd
  | ok r =>
    obtain ⟨o, q⟩ := r
    rw [hd] at h
    simp only at h
    split at h
    · injection h with h; omega
    · split at h
      · injection h with h; omega
      · cases hx : datR l (b2 l q : Nat) (q + 10) (q + 10 + b2 l (q + 8)) with
        | error c' => rw [hx] at h; injection h with h; subst h; exact datR_e hx
        | ok d => rw [hx] at h; cases h
theorem ptGo_len {l : List UInt8} {e : Nat} : ∀ {fs : List UInt8} {p : Nat} {out d : List UInt8}, ptGo l e fs p out = .ok d → d.length ≤ out.length + 255 * fs.length
  | [], p, out, d, h => by
    rw [ptGo] at h
    split at h
    · injection h with h; subst h; simp
    · cases h
  | f :: fs, p, out, d, h => by
    rw [ptGo] at h
    rw [List.length_cons]
    by_cases hf : f = 98
    · rw [if_pos hf] at h
      by_cases hp : e ≤ p
      · rw [if_pos hp] at h; cases h
      · rw [if_neg hp] at h
        have := ptGo_len h
        rw [List.length_append, List.length_singleton] at this
        omega
    · rw [if_neg hf] at h
      cases hd : dn l p p none [] with
      | error c' => rw [hd] at h; cases h
      | ok r =>
        obtain ⟨s, q⟩ := r
        rw [hd] at h
        simp only at h
        by_cases hq : e < q
        · rw [if_pos hq] at h; cases h
        · rw [if_neg hq] at h
          have := ptGo_len h
          rw [List.length_append] at this
          have := (dn_name hd).2.1
          omega
theorem sform_len (t : Int) : (specForm t).length ≤ 22 := by
  unfold specForm
  repeat' split
  all_goals decide
def datV : Except Int (List UInt8) → AV
  | .error c => .tp [.s [], .i .i64 c]
  | .ok d => .tp [.s d, .i .i64 0]
def zr : Rr := ⟨[], 0, 0, 0, []⟩
def recV : Except Int (Rr × Nat) → AV
  | .error c => .tp [eR.v zr, .i .i64 0, .i .i64 c]
  | .ok (r, q) => .tp [eR.v r, .i .i64 (q : Nat), .i .i64 0]
def T_l04Data (C : Tab) (f : Nat) : Prop := ∀ (a : AV) (l : List UInt8) (t : Int) (p e : Nat) (H : AH), Byt H a l → Cl H a → l.length ≤ 65535 → p ≤ e → e ≤ l.length →
  ∃ v H', C f [a, .i .i64 t, .i .i64 p, .i .i64 e] H = some (v, H') ∧ v = datV (datR l t p e) ∧ Ext H H'
def T_l04Record (C : Tab) (f : Nat) : Prop := ∀ (a : AV) (l : List UInt8) (p : Nat) (H : AH), Byt H a l → Cl H a → l.length ≤ 65535 → p ≤ l.length →
  ∃ v H', C f [a, .i .i64 p] H = some (v, H') ∧ v = recV (recR l p) ∧ Ext H H'
section
variable {C : Tab}
set_option maxHeartbeats 1000000 in
theorem r_l04Data {a : AV} {l : List UInt8} {t : Int} {p0 e0 : Nat} {H : AH} (hP : T_pointed C n_spec_l04Pointed) (hK : T_CheckS C n_spec_CheckData) (hF : T_form C n_spec_l02Form) (hN : T_DecodeName C n_spec_DecodeName)
    (h : Byt H a l) (hc : Cl H a) (hl : l.length ≤ 65535) (hp : p0 ≤ e0) (he0 : e0 ≤ l.length) :
    Runs C c_spec_l04Data [a, .i .i64 t, .i .i64 p0, .i .i64 e0] H fun v H' => v = datV (datR l t p0 e0) ∧ Ext H H' := by
  unfold Runs c_spec_l04Data
  have oa := h.out
  obtain ⟨l1, l2⟩ := h.len
  by_cases h0 : p0 = e0
  · subst h0
    rw [datR, if_pos rfl]
    simp -implicitDefEqProofs only [bU, reduceIte, Nat.reduceEqDiff, reduceCtorEq, implies_true, forall_const, eq_self, Nat.reduceAdd, Nat.reduceLT, bne_self_eq_false, bT, eq_self, true_implies, false_implies, forall_const, if_true, if_false, Int.reduceToNat, Nat.reduceSub, Int.reduceLE, bV, Nat.reduceAdd, Nat.reduceLT, Nat.reduceLeDiff, Nat.reduceLeDiff, endK, rsC, rsV, resV]
    exact ⟨rfl, .refl H⟩
  have h0' : ¬ (p0 : Int) = (e0 : Int) := by omega
  have kP := fun H => hP t H
  rw [datR, if_neg h0]
  cases hh : hasP t with
  | false =>
    rw [hh] at kP
    rw [if_neg (by simp)]
    obtain ⟨t1, t2, t3⟩ := h.sub hc (lo := p0) (hi := e0) (by omega) (by omega) (by rw [enc_len]; omega)
    have hcl : ((encB l).drop (p0 : Int).toNat).take ((e0 : Int).toNat - (p0 : Int).toNat) = encB ((l.drop p0).take (e0 - p0)) := by
      rw [toNat_nat, toNat_nat, enc_drop, enc_take]
    rw [hcl, toNat_nat, toNat_nat] at t3
    obtain ⟨c1, c2⟩ := Byt.cbs t3
    have hsl : ((l.drop p0).take (e0 - p0)).length = e0 - p0 := by rw [List.length_take, List.length_drop]; omega
    obtain ⟨v1, H1, k1, rfl, e1⟩ := hK t ((l.drop p0).take (e0 - p0)) H (by omega)
    by_cases hk : chk t ((l.drop p0).take (e0 - p0)) = 0
    · rw [hk] at k1
      simp -implicitDefEqProofs only [bU, reduceIte, Nat.reduceEqDiff, reduceCtorEq, implies_true, forall_const, eq_self, Nat.reduceAdd, Nat.reduceLT, bne_self_eq_false, bT, eq_self, true_implies, false_implies, forall_const, if_true, if_false, Int.reduceToNat, Nat.reduceSub, Int.reduceLE, bV, Nat.reduceAdd, Nat.reduceLT, Nat.reduceLeDiff, Nat.reduceLeDiff, h0', kP, toNat_nat, t1, t2, c1, c2, k1, Int.reduceEq, endK, rsC, rsV, resV]
      rw [if_pos hk]
      exact ⟨l2, rfl, e1⟩
    · simp -implicitDefEqProofs only [bU, reduceIte, Nat.reduceEqDiff, reduceCtorEq, implies_true, forall_const, eq_self, Nat.reduceAdd, Nat.reduceLT, bne_self_eq_false, bT, eq_self, true_implies, false_implies, forall_const, if_true, if_false, Int.reduceToNat, Nat.reduceSub, Int.reduceLE, bV, Nat.reduceAdd, Nat.reduceLT, Nat.reduceLeDiff, Nat.reduceLeDiff, h0', kP, toNat_nat, t1, t2, c1, c2, k1, hk, endK, rsC, rsV, resV]
      exact ⟨l2, rfl, e1⟩
  | true =>
    rw [hh] at kP
    rw [if_pos rfl]
    have kF := fun H => hF t H
    have fl := sform_len t
    have hfm : ∀ i, i < (specForm t).length → ¬ (specForm t).getD i 0 = 98 → True := fun _ _ _ => trivial
    generalize specForm t = F at *
    simp -implicitDefEqProofs only [bU, reduceIte, Nat.reduceEqDiff, reduceCtorEq, implies_true, forall_const, eq_self, Nat.reduceAdd, Nat.reduceLT, bne_self_eq_false, bT, eq_self, true_implies, false_implies, forall_const, if_true, if_false, Int.reduceToNat, Nat.reduceSub, Int.reduceLE, bV, Nat.reduceAdd, Nat.reduceLT, Nat.reduceLeDiff, Nat.reduceLeDiff, h0', kP, kF]
    refine exec_loop (fun n e M => ∃ (i p : Nat) (out : List UInt8) (H' : AH) (L : List Lv) (g : Nat), i ≤ F.length ∧ n = F.length - i ∧ p ≤ e0 ∧ look e 0 = a ∧ look e 2 = .i .i64 p ∧ look e 3 = .i .i64 e0 ∧ look e 11 = .s out ∧ look e 12 = .s F ∧ look e 13 = .i .i64 i ∧ M = ⟨L, g, H'⟩ ∧ Ext H H' ∧ out.length ≤ 255 * i ∧
      ptGo l e0 F p0 [] = ptGo l e0 (F.drop i) p out) ?_ (n := F.length) ⟨0, p0, [], H, _, _, by omega, by omega, hp, rfl, rfl, rfl, rfl, rfl, rfl, rfl, .refl H, by simp, rfl⟩
    rintro n e M ⟨i, p, out, H', L, g, hi, rfl, hpe, q0, q2, q3, q11, q12, q13, rfl, he, hol, hg⟩
    have hs : Byt H' a l := h.ext he
    have hc' : Cl H' a := hc.fr fun i hi => he.at' i (Sl.lt h i hi)
    by_cases h1 : (i : Int) < F.length
    · have hil : i < F.length := by omega
      have hpi : (0 : Int) ≤ (i : Int) := by omega
      have w1 : IntKind.i64.wrap ((i : Int) + 1) = ((i + 1 : Nat) : Int) := by rw [w64 (by omega) (by omega)]; rfl
      have e2 : F.getD i 0 = F[i] := by simp [List.getD, hil]
      rw [List.drop_eq_getElem_cons hil, ptGo, ← e2] at hg
      by_cases h2 : F.getD i 0 = 98
      · rw [if_pos h2] at hg
        have h2' : (((F.getD i 0).toNat : Int) = 98) = True := eq_true (by rw [h2]; rfl)
        by_cases h3 : e0 ≤ p
        · rw [if_pos h3] at hg
          have h3' : (e0 : Int) ≤ (p : Int) := by omega
          simp -implicitDefEqProofs only [bU, reduceIte, Nat.reduceEqDiff, reduceCtorEq, implies_true, forall_const, eq_self, Nat.reduceAdd, Nat.reduceLT, bne_self_eq_false, bT, eq_self, true_implies, false_implies, forall_const, if_true, if_false, Int.reduceToNat, Nat.reduceSub, Int.reduceLE, bV, Nat.reduceAdd, Nat.reduceLT, Nat.reduceLeDiff, Nat.reduceLeDiff, q0, q2, q3, q11, q12, q13, h1, hpi, toNat_nat, h2', h3', endK, rsC, rsV, resV]
          rw [hg]
          exact ⟨rfl, he⟩
        · rw [if_neg h3] at hg
          have h3' : ¬ (e0 : Int) ≤ (p : Int) := by omega
          have w2 : IntKind.i64.wrap ((p : Int) + 1) = ((p + 1 : Nat) : Int) := by rw [w64 (by omega) (by omega)]; rfl
          obtain ⟨t1, t2, t3⟩ := hs.sub hc' (lo := p) (hi := (p + 1 : Nat)) (by omega) (by omega) (by rw [enc_len]; omega)
          have hcl : ((encB l).drop (p : Int).toNat).take (((p + 1 : Nat) : Int).toNat - (p : Int).toNat) = encB [l.getD p 0] := by
            have e3 : l.getD p 0 = l[p]'(by omega) := by simp [List.getD, List.getElem?_eq_getElem (show p < l.length by omega)]
            rw [toNat_nat, toNat_nat, Nat.add_sub_cancel_left, enc_drop, enc_take, List.drop_eq_getElem_cons (by omega), List.take_succ_cons, List.take_zero, e3]
          rw [hcl, toNat_nat, toNat_nat] at t3
          obtain ⟨c1, c2⟩ := Byt.cbs t3
          simp -implicitDefEqProofs only [bU, reduceIte, Nat.reduceEqDiff, reduceCtorEq, implies_true, forall_const, eq_self, Nat.reduceAdd, Nat.reduceLT, bne_self_eq_false, bT, eq_self, true_implies, false_implies, forall_const, if_true, if_false, Int.reduceToNat, Nat.reduceSub, Int.reduceLE, bV, Nat.reduceAdd, Nat.reduceLT, Nat.reduceLeDiff, Nat.reduceLeDiff, q0, q2, q3, q11, q12, q13, h1, hpi, toNat_nat, h2', h3', w1, w2, t1, t2, c1, c2]
          refine ⟨l2, by omega, F.length - (i + 1), by omega, i + 1, p + 1, out ++ [l.getD p 0], H', _, _, by omega, rfl, by omega, rfl, rfl, rfl, rfl, he, by rw [List.length_append, List.length_singleton]; omega, hg⟩
      · rw [if_neg h2] at hg
        have h2' : ¬ ((F.getD i 0).toNat : Int) = 98 := fun e => h2 (UInt8.toNat_inj.1 (by show _ = 98; omega))
        obtain ⟨v1, H1, k1, rfl, e1⟩ := hN a l p H' hs hc' hl (by omega)
        cases hd : dn l p p none [] with
        | error c =>
          rw [hd] at hg k1
          have hc0 := dn_e hd
          simp only [dnV] at k1
          simp -implicitDefEqProofs only [bU, reduceIte, Nat.reduceEqDiff, reduceCtorEq, implies_true, forall_const, eq_self, Nat.reduceAdd, Nat.reduceLT, bne_self_eq_false, bT, eq_self, true_implies, false_implies, forall_const, if_true, if_false, Int.reduceToNat, Nat.reduceSub, Int.reduceLE, bV, Nat.reduceAdd, Nat.reduceLT, Nat.reduceLeDiff, Nat.reduceLeDiff, q0, q2, q3, q11, q12, q13, h1, hpi, toNat_nat, h2', oa, k1, hc0, endK, rsC, rsV, resV]
          rw [hg]
          exact ⟨rfl, he.trans e1⟩
        | ok r =>
          obtain ⟨s, q⟩ := r
          rw [hd] at hg k1
          obtain ⟨-, d2, d3⟩ := dn_name hd
          simp only at hg
          simp only [dnV] at k1
          by_cases h3 : e0 < q
          · rw [if_pos h3] at hg
            have h3' : (e0 : Int) < (q : Int) := by omega
            simp -implicitDefEqProofs only [bU, reduceIte, Nat.reduceEqDiff, reduceCtorEq, implies_true, forall_const, eq_self, Nat.reduceAdd, Nat.reduceLT, bne_self_eq_false, bT, eq_self, true_implies, false_implies, forall_const, if_true, if_false, Int.reduceToNat, Nat.reduceSub, Int.reduceLE, bV, Nat.reduceAdd, Nat.reduceLT, Nat.reduceLeDiff, Nat.reduceLeDiff, q0, q2, q3, q11, q12, q13, h1, hpi, toNat_nat, h2', oa, k1, Int.reduceEq, h3', endK, rsC, rsV, resV]
            rw [hg]
            exact ⟨rfl, he.trans e1⟩
          · rw [if_neg h3] at hg
            have h3' : ¬ (e0 : Int) < (q : Int) := by omega
            simp -implicitDefEqProofs only [bU, reduceIte, Nat.reduceEqDiff, reduceCtorEq, implies_true, forall_const, eq_self, Nat.reduceAdd, Nat.reduceLT, bne_self_eq_false, bT, eq_self, true_implies, false_implies, forall_const, if_true, if_false, Int.reduceToNat, Nat.reduceSub, Int.reduceLE, bV, Nat.reduceAdd, Nat.reduceLT, Nat.reduceLeDiff, Nat.reduceLeDiff, q0, q2, q3, q11, q12, q13, h1, hpi, toNat_nat, h2', oa, k1, Int.reduceEq, h3', w1]
            refine ⟨by omega, F.length - (i + 1), by omega, i + 1, q, out ++ s, H1, _, _, by omega, rfl, by omega, rfl, rfl, rfl, rfl, he.trans e1, by rw [List.length_append]; omega, hg⟩
    · have hil : i = F.length := by omega
      subst hil
      rw [List.drop_length, ptGo] at hg
      by_cases h3 : p = e0
      · rw [if_pos h3] at hg
        have h3' : ((p : Int) = (e0 : Int)) = True := eq_true (by omega)
        simp -implicitDefEqProofs only [bU, reduceIte, Nat.reduceEqDiff, reduceCtorEq, implies_true, forall_const, eq_self, Nat.reduceAdd, Nat.reduceLT, bne_self_eq_false, bT, eq_self, true_implies, false_implies, forall_const, if_true, if_false, Int.reduceToNat, Nat.reduceSub, Int.reduceLE, bV, Nat.reduceAdd, Nat.reduceLT, Nat.reduceLeDiff, Nat.reduceLeDiff, q0, q2, q3, q11, q12, q13, h1, h3', endK, rsC, rsV, resV]
        rw [hg]
        exact ⟨rfl, he⟩
      · rw [if_neg h3] at hg
        have h3' : ¬ (p : Int) = (e0 : Int) := by omega
        simp -implicitDefEqProofs only [bU, reduceIte, Nat.reduceEqDiff, reduceCtorEq, implies_true, forall_const, eq_self, Nat.reduceAdd, Nat.reduceLT, bne_self_eq_false, bT, eq_self, true_implies, false_implies, forall_const, if_true, if_false, Int.reduceToNat, Nat.reduceSub, Int.reduceLE, bV, Nat.reduceAdd, Nat.reduceLT, Nat.reduceLeDiff, Nat.reduceLeDiff, q0, q2, q3, q11, q12, q13, h1, h3', endK, rsC, rsV, resV]
        rw [hg]
        exact ⟨rfl, he⟩
set_option maxRecDepth 100000 in
set_option maxHeartbeats 1000000 in
theorem r_l04Record {a : AV} {l : List UInt8} {p : Nat} {H : AH} (hU : T_l02Num C n_spec_l02Num) (hN : T_DecodeName C n_spec_DecodeName) (hD : T_l04Data C n_spec_l04Data)
    (h : Byt H a l) (hc : Cl H a) (hl : l.length ≤ 65535) (hp : p ≤ l.length) :
    Runs C c_spec_l04Record [a, .i .i64 p] H fun v H' => v = recV (recR l p) ∧ Ext H H' := by
  unfold Runs c_spec_l04Record
  have oa := h.out
  obtain ⟨v1, H1, k1, rfl, e1⟩ := hN a l p H h hc hl hp
  unfold recR
  cases hd : dn l p p none [] with
  | error c =>
    rw [hd] at k1
    have hc0 := dn_e hd
    simp only [dnV] at k1
    simp -implicitDefEqProofs only [bU, reduceIte, Nat.reduceEqDiff, reduceCtorEq, implies_true, forall_const, eq_self, Nat.reduceAdd, Nat.reduceLT, bne_self_eq_false, bT, eq_self, true_implies, false_implies, forall_const, if_true, if_false, Int.reduceToNat, Nat.reduceSub, Int.reduceLE, bV, Nat.reduceAdd, Nat.reduceLT, Nat.reduceLeDiff, Nat.reduceLeDiff, oa, k1, hc0, endK, rsC, rsV, resV]
    exact ⟨rfl, e1⟩
  | ok r =>
    obtain ⟨o, q⟩ := r
    rw [hd] at k1
    obtain ⟨-, d2, d3⟩ := dn_name hd
    simp only [dnV] at k1
    simp only
    have hs : Byt H1 a l := h.ext e1
    have hc' : Cl H1 a := hc.fr fun i hi => e1.at' i (Sl.lt h i hi)
    obtain ⟨l1, l2⟩ := hs.len
    have w1 : IntKind.i64.wrap ((q : Int) + 10) = ((q + 10 : Nat) : Int) := by rw [w64 (by omega) (by omega)]; rfl
    by_cases h1 : l.length < q + 10
    · rw [if_pos h1]
      have h1' : (l.length : Int) < ((q + 10 : Nat) : Int) := by omega
      simp -implicitDefEqProofs only [bU, reduceIte, Nat.reduceEqDiff, reduceCtorEq, implies_true, forall_const, eq_self, Nat.reduceAdd, Nat.reduceLT, bne_self_eq_false, bT, eq_self, true_implies, false_implies, forall_const, if_true, if_false, Int.reduceToNat, Nat.reduceSub, Int.reduceLE, bV, Nat.reduceAdd, Nat.reduceLT, Nat.reduceLeDiff, Nat.reduceLeDiff, oa, k1, Int.reduceEq, l1, l2, w1, h1', endK, rsC, rsV, resV]
      exact ⟨rfl, e1⟩
    rw [if_neg h1]
    have h1' : ¬ (l.length : Int) < ((q + 10 : Nat) : Int) := by omega
    obtain ⟨t1, t2, t3⟩ := hs.sub hc' (lo := q) (hi := (q + 10 : Nat)) (by omega) (by omega) (by rw [enc_len]; omega)
    have hcl : ((encB l).drop (q : Int).toNat).take (((q + 10 : Nat) : Int).toNat - (q : Int).toNat) = encB ((l.drop q).take 10) := by
      rw [toNat_nat, toNat_nat, Nat.add_sub_cancel_left, enc_drop, enc_take]
    rw [hcl, toNat_nat, toNat_nat] at t3
    obtain ⟨c1, c2⟩ := Byt.cbs t3
    have hsl : ((l.drop q).take 10).length = 10 := by rw [List.length_take, List.length_drop]; omega
    have b8 : num (((l.drop q).take 10).drop 8) 0 = b2 l (q + 8) := by
      unfold b2; rw [List.drop_take, List.drop_drop]
    have b0 : num (((l.drop q).take 10).take 2) 0 = b2 l q := by
      unfold b2; rw [List.take_take]; rfl
    have b02 : num ((((l.drop q).take 10).drop 2).take 2) 0 = b2 l (q + 2) := by
      unfold b2; rw [List.drop_take, List.drop_drop, List.take_take]; rfl
    have b04 : num ((((l.drop q).take 10).drop 4).take 4) 0 = num ((l.drop (q + 4)).take 4) 0 := by
      rw [List.drop_take, List.drop_drop, List.take_take]; rfl
    generalize hS : (l.drop q).take 10 = S at *
    have u8 := fun H => hU (S.drop 8) H (by rw [List.length_drop]; omega)
    have u0 := fun H => hU (S.take 2) H (by rw [List.length_take]; omega)
    have u2 := fun H => hU ((S.drop 2).take 2) H (by rw [List.length_take]; omega)
    have u4 := fun H => hU ((S.drop 4).take 4) H (by rw [List.length_take]; omega)
    rw [b8] at u8
    rw [b0] at u0
    rw [b02] at u2
    rw [b04] at u4
    have lt8 := b2_lt (l := l) (k := q + 8) (by omega)
    have w2 : IntKind.i64.wrap (((q + 10 : Nat) : Int) + ((b2 l (q + 8) : Nat) : Int)) = ((q + 10 + b2 l (q + 8) : Nat) : Int) := by rw [w64 (by omega) (by omega)]; omega
    have s8 : List.take (10 - 8) (S.drop 8) = S.drop 8 := List.take_of_length_le (by rw [List.length_drop]; omega)
    have g8 : (8 : Int) ≤ ((10 : Nat) : Int) := by omega
    have g2 : (2 : Int) ≤ ((10 : Nat) : Int) := by omega
    have g4 : (4 : Int) ≤ ((10 : Nat) : Int) := by omega
    by_cases h2 : l.length < q + 10 + b2 l (q + 8)
    · rw [if_pos h2]
      have h2' : (l.length : Int) < ((q + 10 + b2 l (q + 8) : Nat) : Int) := by omega
      simp -implicitDefEqProofs only [bU, reduceIte, Nat.reduceEqDiff, reduceCtorEq, implies_true, forall_const, eq_self, Nat.reduceAdd, Nat.reduceLT, bne_self_eq_false, bT, eq_self, true_implies, false_implies, forall_const, if_true, if_false, Int.reduceToNat, Nat.reduceSub, Int.reduceLE, bV, Nat.reduceAdd, Nat.reduceLT, Nat.reduceLeDiff, Nat.reduceLeDiff, oa, k1, Int.reduceEq, l1, l2, w1, h1', toNat_nat, t1, t2, c1, c2, hsl, s8, g8, u8, w2, h2', endK, rsC, rsV, resV]
      exact ⟨rfl, e1⟩
    rw [if_neg h2]
    have h2' : ¬ (l.length : Int) < ((q + 10 + b2 l (q + 8) : Nat) : Int) := by omega
    obtain ⟨v3, H3, k3, rfl, e3⟩ := hD a l (b2 l q : Nat) (q + 10) (q + 10 + b2 l (q + 8)) H1 hs hc' hl (by omega) (by omega)
    cases hx : datR l (b2 l q : Nat) (q + 10) (q + 10 + b2 l (q + 8)) with
    | error c =>
      rw [hx] at k3
      have hc0 := datR_e hx
      simp only [datV] at k3
      simp -implicitDefEqProofs only [bU, reduceIte, Nat.reduceEqDiff, reduceCtorEq, implies_true, forall_const, eq_self, Nat.reduceAdd, Nat.reduceLT, bne_self_eq_false, bT, eq_self, true_implies, false_implies, forall_const, if_true, if_false, Int.reduceToNat, Nat.reduceSub, Int.reduceLE, bV, Nat.reduceAdd, Nat.reduceLT, Nat.reduceLeDiff, Nat.reduceLeDiff, oa, k1, Int.reduceEq, l1, l2, w1, h1', toNat_nat, t1, t2, c1, c2, hsl, s8, g8, g2, u8, u0, w2, h2', k3, hc0, endK, rsC, rsV, resV]
      exact ⟨rfl, e1.trans e3⟩
    | ok d =>
      rw [hx] at k3
      simp only [datV] at k3
      simp -implicitDefEqProofs only [bU, reduceIte, Nat.reduceEqDiff, reduceCtorEq, implies_true, forall_const, eq_self, Nat.reduceAdd, Nat.reduceLT, bne_self_eq_false, bT, eq_self, true_implies, false_implies, forall_const, if_true, if_false, Int.reduceToNat, Nat.reduceSub, Int.reduceLE, bV, Nat.reduceAdd, Nat.reduceLT, Nat.reduceLeDiff, Nat.reduceLeDiff, lgAt, isRd, oa, k1, Int.reduceEq, l1, l2, w1, h1', toNat_nat, t1, t2, c1, c2, hsl, s8, g8, g2, g4, u8, u0, u2, u4, w2, h2', k3, endK, rsC, rsV, resV]
      exact ⟨rfl, e1.trans e3⟩
end
end Go.Vm
/- Heads of messages: both readers. -/
namespace Go.Vm
set_option linter.unusedVariables false
set_option linter.unusedSimpArgs false
def cnt0 : AV := .ag [.i .i64 0, .i .i64 0, .i .i64 0, .i .i64 0]
def headV (l : List UInt8) : AV := if l.length < 12 then .tp [eH.v hd0, cnt0, .i .i64 8] else .tp [eH.v (hdOf (l.take 12)), cntV (l.take 12), .i .i64 0]
def T_Head (C : Tab) (f : Nat) : Prop := ∀ (a : AV) (l : List UInt8) (H : AH), Byt H a l → Cl H a → ∃ v H', C f [a] H = some (v, H') ∧ v = headV l ∧ H' = H
section
variable {C : Tab}
theorem r_bitS {n k : Nat} {H : AH} (hn : n < 9223372036854775808) (hk : k ≤ 62) : Runs C c_spec_l04Bit [.i .i64 n, .i .i64 k] H fun v H' => H' = H ∧ v = .b (bitN n k) := by
  unfold Runs c_spec_l04Bit
  have k0 : (0 : Int) ≤ k := by omega
  have hw : IntKind.u64.wrap (k : Int) = (k : Int) := by rw [IntKind.wrap_u64]; omega
  have hm : min (k : Int).toNat IntKind.i64.bits = k := by
    rw [show IntKind.i64.bits = 64 from rfl]; omega
  have v : (n : Int).fdiv (2 ^ (min (k : Int).toNat IntKind.i64.bits)) = ((n / 2 ^ k : Nat) : Int) := by rw [hm]; exact fdiv_nat n k
  have hd : n / 2 ^ k ≤ n := Nat.div_le_self _ _
  have a : bitw .and .i64 ((n / 2 ^ k : Nat) : Int) 1 = ((n / 2 ^ k % 2 : Nat) : Int) := and_low (k := 1) (by omega) (by decide)
  simp -implicitDefEqProofs only [bU, reduceIte, Nat.reduceEqDiff, reduceCtorEq, implies_true, forall_const, eq_self, Nat.reduceAdd, Nat.reduceLT, bne_self_eq_false, bT, eq_self, true_implies, false_implies, forall_const, if_true, if_false, Int.reduceToNat, Nat.reduceSub, Int.reduceLE, hw, k0, v, a, endK, rsC, rsV, resV]
  unfold bitN
  congr 1
  exact propext (by omega)
def T_bitS (C : Tab) (f : Nat) : Prop := ∀ (n k : Nat) (H : AH), n < 9223372036854775808 → k ≤ 62 → C f [.i .i64 n, .i .i64 k] H = some (.b (bitN n k), H)
theorem r_HeadI {a : AV} {l : List UInt8} {H : AH} (hU : T_u16 C n_impl_u16) (hB : T_bit C n_impl_bit) (h : Byt H a l) (hc : Cl H a) :
    Runs C c_impl_DecodeHead [a] H fun v H' => v = headV l ∧ H' = H := by
  unfold headV
  by_cases hl : l.length < 12
  · rw [if_pos hl]
    unfold Runs c_impl_DecodeHead
    obtain ⟨l1, l2⟩ := h.len
    have hlt : (l.length : Int) < 12 := by omega
    simp -implicitDefEqProofs only [bU, reduceIte, Nat.reduceEqDiff, reduceCtorEq, implies_true, forall_const, eq_self, Nat.reduceAdd, Nat.reduceLT, bne_self_eq_false, bT, eq_self, true_implies, false_implies, forall_const, if_true, if_false, Int.reduceToNat, Nat.reduceSub, Int.reduceLE, bV, Nat.reduceAdd, Nat.reduceLT, Nat.reduceLeDiff, Nat.reduceLeDiff, lgAt, isRd, l1, l2, hlt, endK, rsC, rsV, resV]
    rfl
  · rw [if_neg hl]
    exact r_DecodeHead hU hB h hc (by omega)
set_option maxRecDepth 100000 in
set_option maxHeartbeats 1000000 in
theorem r_HeadS {a : AV} {l : List UInt8} {H : AH} (hU : T_l02Num C n_spec_l02Num) (hB : T_bitS C n_spec_l04Bit) (h : Byt H a l) (hc : Cl H a) :
    Runs C c_spec_DecodeHead [a] H fun v H' => v = headV l ∧ H' = H := by
  unfold headV
  unfold Runs c_spec_DecodeHead
  obtain ⟨l1, l2⟩ := h.len
  by_cases hl : l.length < 12
  · rw [if_pos hl]
    have hlt : (l.length : Int) < 12 := by omega
    simp -implicitDefEqProofs only [bU, reduceIte, Nat.reduceEqDiff, reduceCtorEq, implies_true, forall_const, eq_self, Nat.reduceAdd, Nat.reduceLT, bne_self_eq_false, bT, eq_self, true_implies, false_implies, forall_const, if_true, if_false, Int.reduceToNat, Nat.reduceSub, Int.reduceLE, bV, Nat.reduceAdd, Nat.reduceLT, Nat.reduceLeDiff, Nat.reduceLeDiff, lgAt, isRd, l1, l2, hlt, endK, rsC, rsV, resV]
    rfl
  rw [if_neg hl]
  have hlt : ¬ (l.length : Int) < 12 := by omega
  obtain ⟨s1, s2, s3⟩ := h.sub hc (lo := 0) (hi := 12) (by omega) (by omega) (by simp; omega)
  have s3' : Byt H (slV 0 12 a) (l.take 12) := by
    have e : ((encB l).drop (0 : Int).toNat).take ((12 : Int).toNat - (0 : Int).toNat) = encB (l.take 12) := by rw [← enc_take]; rfl
    rw [e] at s3; exact s3
  obtain ⟨c1, c2⟩ := s3'.cbs
  have hs : (l.take 12).length = 12 := by simp; omega
  generalize l.take 12 = s at *
  have u : ∀ k, k + 2 ≤ 12 → ∀ H, C n_spec_l02Num [.s ((s.drop k).take 2)] H = some (.i .i64 (b2 s k), H) := fun k hk H => hU _ H (by rw [List.length_take]; omega)
  have u0 := fun H => hU (s.take 2) H (by rw [List.length_take]; omega)
  have u2 := fun H => u 2 (by omega) H
  have u4 := fun H => u 4 (by omega) H
  have u6 := fun H => u 6 (by omega) H
  have u8 := fun H => u 8 (by omega) H
  have u10 := fun H => u 10 (by omega) H
  have e0 : num (s.take 2) 0 = b2 s 0 := rfl
  simp only [e0] at u0
  have hv := b2_lt (l := s) (k := 2) (by omega)
  have bb : ∀ (k : Nat), k ≤ 62 → ∀ H, C n_spec_l04Bit [.i .i64 (b2 s 2 : Nat), .i .i64 k] H = some (.b (bitN (b2 s 2) k), H) := fun k hk H => hB _ k H (by omega) hk
  have b15 := fun H => bb 15 (by omega) H
  have b10 := fun H => bb 10 (by omega) H
  have b9 := fun H => bb 9 (by omega) H
  have b8 := fun H => bb 8 (by omega) H
  have b7 := fun H => bb 7 (by omega) H
  have b6 := fun H => bb 6 (by omega) H
  have b5 := fun H => bb 5 (by omega) H
  have b4 := fun H => bb 4 (by omega) H
  simp only [show ((15 : Nat) : Int) = 15 from rfl, show ((10 : Nat) : Int) = 10 from rfl, show ((9 : Nat) : Int) = 9 from rfl, show ((8 : Nat) : Int) = 8 from rfl, show ((7 : Nat) : Int) = 7 from rfl, show ((6 : Nat) : Int) = 6 from rfl, show ((5 : Nat) : Int) = 5 from rfl, show ((4 : Nat) : Int) = 4 from rfl] at b15 b10 b9 b8 b7 b6 b5 b4
  have f1 : ((b2 s 2 : Nat) : Int).fdiv (2 ^ (min 11 IntKind.i64.bits)) = ((b2 s 2 / 2048 : Nat) : Int) := fdiv_nat (b2 s 2) 11
  have f2 : bitw .and .i64 ((b2 s 2 / 2048 : Nat) : Int) 15 = ((b2 s 2 / 2048 % 16 : Nat) : Int) := and_low (k := 4) (by omega) (by decide)
  have f3 : bitw .and .i64 ((b2 s 2 : Nat) : Int) 15 = ((b2 s 2 % 16 : Nat) : Int) := and_low (k := 4) (by omega) (by decide)
  have g2 : (2 : Int) ≤ ((12 : Nat) : Int) := by omega
  have g4 : (4 : Int) ≤ ((12 : Nat) : Int) := by omega
  have g6 : (6 : Int) ≤ ((12 : Nat) : Int) := by omega
  have g8 : (8 : Int) ≤ ((12 : Nat) : Int) := by omega
  have g10 : (10 : Int) ≤ ((12 : Nat) : Int) := by omega
  have g12 : (12 : Int) ≤ ((12 : Nat) : Int) := by omega
  simp -implicitDefEqProofs only [bU, reduceIte, Nat.reduceEqDiff, reduceCtorEq, implies_true, forall_const, eq_self, Nat.reduceAdd, Nat.reduceLT, bne_self_eq_false, bT, eq_self, true_implies, false_implies, forall_const, if_true, if_false, Int.reduceToNat, Nat.reduceSub, Int.reduceLE, bV, Nat.reduceAdd, Nat.reduceLT, Nat.reduceLeDiff, Nat.reduceLeDiff, lgAt, isRd, l1, l2, hlt, s1, s2, c1, c2, hs, toNat_nat, g2, g4, u0, u2, b15, b10, b9, b8, b7, b6, b5, b4, f1, f2, f3]
  refine exec_loop (fun n e M => ∃ (i : Nat) (L : List Lv) (g : Nat), i ≤ 4 ∧ n = 4 - i ∧ look e 2 = .la 2 0 0 0 ∧ look e 3 = .la 3 1 0 0 ∧ look e 5 = .la 5 2 0 0 ∧ look e 6 = .s s ∧ look e 8 = .la 8 3 0 0 ∧ look e 9 = .i .i64 i ∧ M = ⟨L, g, H⟩ ∧
    keepL [2, 3, 5, 6, 8, 9] L = [⟨8, 3, 0, [eH.v (hdOf s)]⟩, ⟨5, 2, 0, [.ag (([b2 s 4, b2 s 6, b2 s 8, b2 s 10].take i).map (fun (n : Nat) => AV.i .i64 n) ++ List.replicate (4 - i) (.i .i64 0))]⟩, ⟨3, 1, 0, [cnt0]⟩, ⟨2, 0, 0, [eH.v hd0]⟩]) ?_ (n := 4) ⟨0, _, _, by omega, by omega, rfl, rfl, rfl, rfl, rfl, rfl, rfl, rfl⟩
  rintro n e M ⟨i, L, g, hi, rfl, q2, q3, q5, q6, q8, q9, rfl, hL⟩
  simp only [eH, Enc.v, hd0, cnt0, hdOf] at hL
  obtain rfl | rfl | rfl | rfl | rfl : i = 0 ∨ i = 1 ∨ i = 2 ∨ i = 3 ∨ i = 4 := by omega
  · have w1 : IntKind.i64.wrap 0 = 0 := by decide
    have w2 : IntKind.i64.wrap 4 = 4 := by decide
    have w3 : IntKind.i64.wrap 6 = 6 := by decide
    have w4 : IntKind.i64.wrap 1 = 1 := by decide
    simp only [List.take, List.map, List.replicate, Nat.reduceSub, List.nil_append, List.cons_append] at hL
    have i0 : (((0 : Nat) : Int)) = 0 := rfl
    have hd : (s.drop 4).take ((6 : Int).toNat - (4 : Int).toNat) = (s.drop 4).take 2 := rfl
    simp -implicitDefEqProofs only [bU, reduceIte, Nat.reduceEqDiff, reduceCtorEq, implies_true, forall_const, eq_self, Nat.reduceAdd, Nat.reduceLT, bne_self_eq_false, bT, eq_self, true_implies, false_implies, forall_const, if_true, if_false, Int.reduceToNat, Nat.reduceSub, Int.reduceLE, bV, Nat.reduceAdd, Nat.reduceLT, Nat.reduceLeDiff, Nat.reduceLeDiff, q2, q3, q5, q6, q8, q9, hL, i0, w1, w2, w3, w4, hs, g6, g8, g10, g12, hd, u4, u6, u8, u10, Int.reduceLT, Int.reduceToNat, Nat.reduceSub, Nat.reduceMul, Int.reduceMul, Int.reduceAdd, show ((4 : Nat) : Int) = 4 from rfl]
    exact ⟨3, by omega, 1, _, _, by omega, rfl, rfl, rfl, rfl⟩
  · have w1 : IntKind.i64.wrap 2 = 2 := by decide
    have w2 : IntKind.i64.wrap 6 = 6 := by decide
    have w3 : IntKind.i64.wrap 8 = 8 := by decide
    have w4 : IntKind.i64.wrap 2 = 2 := by decide
    simp only [List.take, List.map, List.replicate, Nat.reduceSub, List.nil_append, List.cons_append] at hL
    have i0 : (((1 : Nat) : Int)) = 1 := rfl
    have hd : (s.drop 6).take ((8 : Int).toNat - (6 : Int).toNat) = (s.drop 6).take 2 := rfl
    simp -implicitDefEqProofs only [bU, reduceIte, Nat.reduceEqDiff, reduceCtorEq, implies_true, forall_const, eq_self, Nat.reduceAdd, Nat.reduceLT, bne_self_eq_false, bT, eq_self, true_implies, false_implies, forall_const, if_true, if_false, Int.reduceToNat, Nat.reduceSub, Int.reduceLE, bV, Nat.reduceAdd, Nat.reduceLT, Nat.reduceLeDiff, Nat.reduceLeDiff, q2, q3, q5, q6, q8, q9, hL, i0, w1, w2, w3, w4, hs, g6, g8, g10, g12, hd, u4, u6, u8, u10, Int.reduceLT, Int.reduceToNat, Nat.reduceSub, Nat.reduceMul, Int.reduceMul, Int.reduceAdd, show ((4 : Nat) : Int) = 4 from rfl]
    exact ⟨2, by omega, 2, _, _, by omega, rfl, rfl, rfl, rfl⟩
  · have w1 : IntKind.i64.wrap 4 = 4 := by decide
    have w2 : IntKind.i64.wrap 8 = 8 := by decide
    have w3 : IntKind.i64.wrap 10 = 10 := by decide
    have w4 : IntKind.i64.wrap 3 = 3 := by decide
    simp only [List.take, List.map, List.replicate, Nat.reduceSub, List.nil_append, List.cons_append] at hL
    have i0 : (((2 : Nat) : Int)) = 2 := rfl
    have hd : (s.drop 8).take ((10 : Int).toNat - (8 : Int).toNat) = (s.drop 8).take 2 := rfl
    simp -implicitDefEqProofs only [bU, reduceIte, Nat.reduceEqDiff, reduceCtorEq, implies_true, forall_const, eq_self, Nat.reduceAdd, Nat.reduceLT, bne_self_eq_false, bT, eq_self, true_implies, false_implies, forall_const, if_true, if_false, Int.reduceToNat, Nat.reduceSub, Int.reduceLE, bV, Nat.reduceAdd, Nat.reduceLT, Nat.reduceLeDiff, Nat.reduceLeDiff, q2, q3, q5, q6, q8, q9, hL, i0, w1, w2, w3, w4, hs, g6, g8, g10, g12, hd, u4, u6, u8, u10, Int.reduceLT, Int.reduceToNat, Nat.reduceSub, Nat.reduceMul, Int.reduceMul, Int.reduceAdd, show ((4 : Nat) : Int) = 4 from rfl]
    exact ⟨1, by omega, 3, _, _, by omega, rfl, rfl, rfl, rfl⟩
  · have w1 : IntKind.i64.wrap 6 = 6 := by decide
    have w2 : IntKind.i64.wrap 10 = 10 := by decide
    have w3 : IntKind.i64.wrap 12 = 12 := by decide
    have w4 : IntKind.i64.wrap 4 = 4 := by decide
    simp only [List.take, List.map, List.replicate, Nat.reduceSub, List.nil_append, List.cons_append] at hL
    have i0 : (((3 : Nat) : Int)) = 3 := rfl
    have hd : (s.drop 10).take ((12 : Int).toNat - (10 : Int).toNat) = (s.drop 10).take 2 := rfl
    simp -implicitDefEqProofs only [bU, reduceIte, Nat.reduceEqDiff, reduceCtorEq, implies_true, forall_const, eq_self, Nat.reduceAdd, Nat.reduceLT, bne_self_eq_false, bT, eq_self, true_implies, false_implies, forall_const, if_true, if_false, Int.reduceToNat, Nat.reduceSub, Int.reduceLE, bV, Nat.reduceAdd, Nat.reduceLT, Nat.reduceLeDiff, Nat.reduceLeDiff, q2, q3, q5, q6, q8, q9, hL, i0, w1, w2, w3, w4, hs, g6, g8, g10, g12, hd, u4, u6, u8, u10, Int.reduceLT, Int.reduceToNat, Nat.reduceSub, Nat.reduceMul, Int.reduceMul, Int.reduceAdd, show ((4 : Nat) : Int) = 4 from rfl]
    exact ⟨0, by omega, 4, _, _, by omega, rfl, rfl, rfl, rfl⟩
  · simp only [List.take, List.map, List.replicate, Nat.reduceSub, List.nil_append, List.cons_append, List.append_nil] at hL
    have i0 : (((4 : Nat) : Int)) = 4 := rfl
    simp -implicitDefEqProofs only [bU, reduceIte, Nat.reduceEqDiff, reduceCtorEq, implies_true, forall_const, eq_self, Nat.reduceAdd, Nat.reduceLT, bne_self_eq_false, bT, eq_self, true_implies, false_implies, forall_const, if_true, if_false, Int.reduceToNat, Nat.reduceSub, Int.reduceLE, bV, Nat.reduceAdd, Nat.reduceLT, Nat.reduceLeDiff, Nat.reduceLeDiff, lgAt, isRd, q2, q3, q5, q6, q8, q9, hL, i0, Int.reduceLT, endK, rsC, rsV, resV]
    rfl
end
end Go.Vm
/- The program's writer of messages: its state, texts and names. -/
namespace Go.Vm
set_option linter.unusedVariables false
set_option linter.unusedSimpArgs false
theorem EncS.fp {H : AH} {n0 pid : Nat} {s : EncSt} (h : EncS H n0 pid s) : ∀ i, Fp H pid i → n0 ≤ i := by
  obtain ⟨⟨bv, mid, h1, h2, h3, h4, h5, h6, h7, h8, h9⟩, hge⟩ := h
  rintro i (rfl | ⟨cs, hcs, a, ha, hi⟩)
  · exact hge
  · have := hcs.same h1
    subst this
    simp only [List.mem_cons, List.not_mem_nil, or_false] at ha
    rcases ha with rfl | rfl
    · exact h9 i (by rw [← Mn.ids h2]; exact hi)
    · simp only [idsA, List.mem_singleton] at hi; omega
section
variable {C : Tab}
end
end Go.Vm
/- The program's writer of messages: a record. -/
namespace Go.Vm
set_option linter.unusedVariables false
set_option linter.unusedSimpArgs false
theorem EncS.keep {H0 H H' : AH} {pid : Nat} {s : EncSt} (h : EncS H H0.n pid s) (he : Ext H0 H) (hw : Wk pid H H') : Ext H0 H' := (hw.bl h.lt.2 h.fp).ext he (Nat.le_refl _)
section
variable {C : Tab}
end
end Go.Vm
/- The program's writer of messages: whole messages. -/
namespace Go.Vm
set_option linter.unusedVariables false
set_option linter.unusedSimpArgs false
section
variable {C : Tab}
end
end Go.Vm
/- Runs of records dropped from a list: both sides. -/
namespace Go.Vm
set_option linter.unusedVariables false
set_option linter.unusedSimpArgs false
def sameRun (x y : Rr) : Prop := x.o = y.o ∧ x.t = y.t ∧ x.c = y.c
instance (x y : Rr) : Decidable (sameRun x y) := by unfold sameRun; infer_instance
theorem lit_srcR {t g : Nat} {x : Rr} {L : List Lv} {H : AH} : srcV ⟨⟨t, g, 0, [.ag [.s x.o, .i .i64 x.t, .i .i64 x.c, .i .i64 x.ttl, .s x.d]]⟩ :: L, g + 1, H⟩ (.ll t g 5 1) = [eR.v x] ∧ srcC ⟨⟨t, g, 0, [.ag [.s x.o, .i .i64 x.t, .i .i64 x.c, .i .i64 x.ttl, .s x.d]]⟩ :: L, g + 1, H⟩ 5 (.ll t g 5 1) := by
  simp [srcV, srcC, Mem.getL, Mem.hasL, lookL, eR, Enc.v]
section
variable {C : Tab}
end
end Go.Vm
/- Runs of records dropped from a list: the specification's side. -/
namespace Go.Vm
set_option linter.unusedVariables false
set_option linter.unusedSimpArgs false
section
variable {C : Tab}
end
end Go.Vm
/- Messages cut to a budget: plainly; messages copied. -/
namespace Go.Vm
set_option linter.unusedVariables false
set_option linter.unusedSimpArgs false
/-! Plainly. -/
/-! Own rows. -/
structure MsgC (H : AH) (n0 : Nat) (q a b c : AV) (m : Msg) : Prop where
  m : MsgM H n0 q a b c m
  ca : Cl H a
  cb : Cl H b
  cc : Cl H c
theorem MsgC.ext {H H' : AH} {n0 : Nat} {q a b c : AV} {m : Msg} (h : MsgC H n0 q a b c m) (he : Ext H H') : MsgC H' n0 q a b c m :=
  ⟨h.m.ext he, h.ca.fr fun i hi => he.at' i (Mn.lt h.m.ha i hi), h.cb.fr fun i hi => he.at' i (Mn.lt h.m.hb i hi), h.cc.fr fun i hi => he.at' i (Mn.lt h.m.hc i hi)⟩
theorem Dj.new {H : AH} {z : Nat} {a x : AV} {els : List AV} (h : Mn H z a els) (hx : ∀ i, i ∈ idA x → H.n ≤ i) : Dj a x := fun i hi hj => by
  have := h.lt i hi
  have := hx i hj
  omega
section
variable {H H' : AH} {n0 : Nat} {q a b c x : AV} {m : Msg} {ys : List Rr}
end
section
variable {C : Tab}
end
end Go.Vm
/- Messages cut to a budget: the specification's side. -/
namespace Go.Vm
set_option linter.unusedVariables false
set_option linter.unusedSimpArgs false
abbrev z15 : AV := .ag [.i .i64 0, .b false, .i .i64 0, .b false, .b false, .b false, .b false, .b false, .b false, .b false, .i .i64 0, .ns, .ns, .ns, .ns]
theorem lit_srcQ {t g : Nat} {x : Qn} {L : List Lv} {H : AH} : srcV ⟨⟨t, g, 0, [.ag [.s x.n, .i .i64 x.t, .i .i64 x.c]]⟩ :: L, g + 1, H⟩ (.ll t g 3 1) = [eQ.v x] ∧ srcC ⟨⟨t, g, 0, [.ag [.s x.n, .i .i64 x.t, .i .i64 x.c]]⟩ :: L, g + 1, H⟩ 3 (.ll t g 3 1) := by
  simp [srcV, srcC, Mem.getL, Mem.hasL, lookL, eQ, Enc.v]
section
variable {C : Tab}
end
end Go.Vm
/- Printed by wip/tools/tygen.py: runs of what the laws do with questions and records that were marked. -/
namespace Go.Vm
set_option linter.unusedVariables false
set_option linter.unusedSimpArgs false
section
variable {C : Tab}
end
end Go.Vm
/- Messages cut to a budget: both sides, and the law's run. -/
namespace Go.Vm
set_option linter.unusedVariables false
set_option linter.unusedSimpArgs false
def msg0 : Msg := ⟨hd0, [], [], [], []⟩
theorem MsgM.lt {H : AH} {q a b c : AV} {m : Msg} {n0 : Nat} (h : MsgM H n0 q a b c m) : ∀ i, i ∈ idA q ++ idA a ++ idA b ++ idA c → i < H.n := fun i hi => by
  simp only [List.mem_append] at hi
  rcases hi with ((hi | hi) | hi) | hi
  · exact Mn.lt h.hq i hi
  · exact Mn.lt h.ha i hi
  · exact Mn.lt h.hb i hi
  · exact Mn.lt h.hc i hi
theorem MsgM.mono {H : AH} {n0 n1 : Nat} {q a b c : AV} {m : Msg} (h : MsgM H n0 q a b c m) (hn : n1 ≤ n0) : MsgM H n1 q a b c m :=
  ⟨h.hq, h.ha, h.hb, h.hc, h.qa, h.qb, h.qc, h.ab, h.ac, h.bc, fun i hi => Nat.le_trans hn (h.ge i hi)⟩
theorem MsgM.nil (H : AH) (n0 : Nat) : MsgM H n0 .ns .ns .ns .ns msg0 := ⟨.nil, .nil, .nil, .nil, fun i hi => by simp [idA] at hi, fun i hi => by simp [idA] at hi, fun i hi => by simp [idA] at hi, fun i hi => by simp [idA] at hi, fun i hi => by simp [idA] at hi, fun i hi => by simp [idA] at hi, fun i hi => by simp [idA] at hi⟩
theorem MsgM.kp {H H' : AH} {ids : List Nat} {n0 : Nat} {q a b c : AV} {m : Msg} (h : MsgM H n0 q a b c m) (hk : Kp ids H H') (hd : ∀ i, i ∈ idA q ++ idA a ++ idA b ++ idA c → ¬ i ∈ ids) : MsgM H' n0 q a b c m :=
  ⟨hk.mn h.hq fun i hi => hd i (by simp [hi]), hk.mn h.ha fun i hi => hd i (by simp [hi]), hk.mn h.hb fun i hi => hd i (by simp [hi]), hk.mn h.hc fun i hi => hd i (by simp [hi]), h.qa, h.qb, h.qc, h.ab, h.ac, h.bc, h.ge⟩
section
variable {C : Tab}
end
end Go.Vm
/- Messages read: what comes of bytes; a row of a message lengthened. -/
namespace Go.Vm
set_option linter.unusedVariables false
set_option linter.unusedSimpArgs false
def qsR (l : List UInt8) : Nat → Nat → List Qn → Except Int (List Qn × Nat)
  | 0, p, acc => .ok (acc, p)
  | k + 1, p, acc => match dn l p p none [] with
    | .error c => .error c
    | .ok (s, q) => if l.length < q + 4 then .error 8 else qsR l k (q + 4) (acc ++ [⟨s, (b2 l q : Nat), (b2 l (q + 2) : Nat)⟩])
/-- Records: where the next one begins, where the last one began. -/
def rsR (l : List UInt8) : Nat → Nat → Nat → List Rr → Except Int (List Rr × Nat × Nat)
  | 0, p, la, acc => .ok (acc, p, la)
  | k + 1, p, _, acc => match recR l p with
    | .error c => .error c
    | .ok (r, q) => rsR l k q p (acc ++ [r])
def msgC (l : List UInt8) (k : Nat) (m : Msg) (p la : Nat) : Except Int (Msg × Nat) := match rsR l k p la m.ex with
  | .error c => .error c
  | .ok (ex, p, la) => if p = l.length then .ok (⟨m.h, m.q, m.an, m.au, ex⟩, la) else .error 10
def msgB (l : List UInt8) (k : Nat) (m : Msg) (p la : Nat) : Except Int (Msg × Nat) := match rsR l k p la m.au with
  | .error c => .error c
  | .ok (au, p, la) => msgC l (b2 l 10) ⟨m.h, m.q, m.an, au, m.ex⟩ p la
def msgA (l : List UInt8) (k : Nat) (m : Msg) (p la : Nat) : Except Int (Msg × Nat) := match rsR l k p la m.an with
  | .error c => .error c
  | .ok (an, p, la) => msgB l (b2 l 8) ⟨m.h, m.q, an, m.au, m.ex⟩ p la
def msgQ (l : List UInt8) (k : Nat) (m : Msg) (p : Nat) : Except Int (Msg × Nat) := match qsR l k p m.q with
  | .error c => .error c
  | .ok (qs, p) => msgA l (b2 l 6) ⟨m.h, qs, m.an, m.au, m.ex⟩ p 0
def msgR (l : List UInt8) : Except Int (Msg × Nat) :=
  if 65535 < l.length then .error 11 else if l.length < 12 then .error 8 else if 400 < b2 l 4 + b2 l 6 + b2 l 8 + b2 l 10 then .error 12 else msgQ l (b2 l 4) ⟨hdOf (l.take 12), [], [], [], []⟩ 12
theorem msgQ_0 {l : List UInt8} {m : Msg} {p : Nat} : msgQ l 0 m p = msgA l (b2 l 6) m p 0 := rfl
theorem msgQ_s {l : List UInt8} {k : Nat} {m : Msg} {p : Nat} : msgQ l (k + 1) m p = match dn l p p none [] with
    | .error c => .error c
    | .ok (s, q) => if l.length < q + 4 then .error 8 else msgQ l k ⟨m.h, m.q ++ [⟨s, (b2 l q : Nat), (b2 l (q + 2) : Nat)⟩], m.an, m.au, m.ex⟩ (q + 4) := by
  unfold msgQ
  rw [qsR]
  cases dn l p p none [] with
  | error c => rfl
  | ok r =>
    simp only
    by_cases h : l.length < r.2 + 4
    · rw [if_pos h, if_pos h]
    · rw [if_neg h, if_neg h]
theorem msgA_0 {l : List UInt8} {m : Msg} {p la : Nat} : msgA l 0 m p la = msgB l (b2 l 8) m p la := rfl
theorem msgB_0 {l : List UInt8} {m : Msg} {p la : Nat} : msgB l 0 m p la = msgC l (b2 l 10) m p la := rfl
theorem msgC_0 {l : List UInt8} {m : Msg} {p la : Nat} : msgC l 0 m p la = if p = l.length then .ok (m, la) else .error 10 := rfl
theorem msgA_s {l : List UInt8} {k : Nat} {m : Msg} {p la : Nat} : msgA l (k + 1) m p la = match recR l p with
    | .error c => .error c
    | .ok (r, q) => msgA l k ⟨m.h, m.q, m.an ++ [r], m.au, m.ex⟩ q p := by
  unfold msgA
  rw [rsR]
  cases recR l p <;> rfl
theorem msgB_s {l : List UInt8} {k : Nat} {m : Msg} {p la : Nat} : msgB l (k + 1) m p la = match recR l p with
    | .error c => .error c
    | .ok (r, q) => msgB l k ⟨m.h, m.q, m.an, m.au ++ [r], m.ex⟩ q p := by
  unfold msgB
  rw [rsR]
  cases recR l p <;> rfl
theorem msgC_s {l : List UInt8} {k : Nat} {m : Msg} {p la : Nat} : msgC l (k + 1) m p la = match recR l p with
    | .error c => .error c
    | .ok (r, q) => msgC l k ⟨m.h, m.q, m.an, m.au, m.ex ++ [r]⟩ q p := by
  unfold msgC
  rw [rsR]
  cases recR l p <;> rfl
theorem b2_take {l : List UInt8} {k : Nat} (h : k + 2 ≤ 12) : b2 (l.take 12) k = b2 l k := by
  unfold b2
  rw [List.drop_take, List.take_take, Nat.min_eq_left (by omega)]
section
variable {H : AH} {n0 : Nat} {q a b c : AV} {m : Msg}
theorem Dj.grow {x x' y : AV} {n : Nat} (h : Dj x y) (hx : ∀ i, i ∈ idA x' → i ∈ idA x ∨ n ≤ i) (hy : ∀ i, i ∈ idA y → i < n) : Dj x' y := fun i hi hj => by
  rcases hx i hi with h' | h'
  · exact h i h' hj
  · have := hy i hj; omega
theorem MsgM.apQ (h : MsgM H n0 q a b c m) (hn : n0 ≤ H.n) {y : AV} {L : List Lv} {g : Nat} {r : Qn} (hy : srcV ⟨L, g, H⟩ y = [eQ.v r] ∧ srcC ⟨L, g, H⟩ 3 y) (hl : m.q.length ≤ 100000) :
    apC ⟨L, g, H⟩ 3 32 y q ∧ ∃ q' H', apV ⟨L, g, H⟩ y q = q' ∧ apM ⟨L, g, H⟩ 3 y q = ⟨L, g, H'⟩ ∧ MsgM H' n0 q' a b c ⟨m.h, m.q ++ [r], m.an, m.au, m.ex⟩ ∧ Kp (idA q) H H' := by
  obtain ⟨p1, q', H', p2, p3, p4, p5, p6, p7, -⟩ := Mn.ap (by' := 32) h.hq hy (by rw [List.length_map, List.length_singleton]; omega)
  have e : (m.q.map eQ.v ++ [eQ.v r]) = (m.q ++ [r]).map eQ.v := by rw [List.map_append]; rfl
  rw [e] at p4
  have hk : Kp (idA q) H H' := ⟨p5, fun i hi hn => p6 i hi hn⟩
  refine ⟨p1, q', H', p2, p3, ⟨p4, hk.mn h.ha fun i hi hj => h.qa i hj hi, hk.mn h.hb fun i hi hj => h.qb i hj hi, hk.mn h.hc fun i hi hj => h.qc i hj hi,
    h.qa.grow p7 h.ha.lt, h.qb.grow p7 h.hb.lt, h.qc.grow p7 h.hc.lt, h.ab, h.ac, h.bc, fun i hi => ?_⟩, hk⟩
  have hg := h.ge i
  simp only [List.mem_append] at hi hg
  rcases hi with ((hi | hi) | hi) | hi
  · exact (p7 i hi).elim (fun h => hg (.inl (.inl (.inl h)))) fun h => by omega
  · exact hg (.inl (.inl (.inr hi)))
  · exact hg (.inl (.inr hi))
  · exact hg (.inr hi)
theorem MsgM.apA (h : MsgM H n0 q a b c m) (hn : n0 ≤ H.n) {y : AV} {L : List Lv} {g : Nat} {r : Rr} (hy : srcV ⟨L, g, H⟩ y = [eR.v r] ∧ srcC ⟨L, g, H⟩ 5 y) (hl : m.an.length ≤ 100000) :
    apC ⟨L, g, H⟩ 5 56 y a ∧ ∃ a' H', apV ⟨L, g, H⟩ y a = a' ∧ apM ⟨L, g, H⟩ 5 y a = ⟨L, g, H'⟩ ∧ MsgM H' n0 q a' b c ⟨m.h, m.q, m.an ++ [r], m.au, m.ex⟩ ∧ Kp (idA a) H H' := by
  obtain ⟨p1, a', H', p2, p3, p4, p5, p6, p7, -⟩ := Mn.ap (by' := 56) h.ha hy (by rw [List.length_map, List.length_singleton]; omega)
  have e : (m.an.map eR.v ++ [eR.v r]) = (m.an ++ [r]).map eR.v := by rw [List.map_append]; rfl
  rw [e] at p4
  have hk : Kp (idA a) H H' := ⟨p5, fun i hi hn => p6 i hi hn⟩
  refine ⟨p1, a', H', p2, p3, ⟨hk.mn h.hq h.qa, p4, hk.mn h.hb fun i hi hj => h.ab i hj hi, hk.mn h.hc fun i hi hj => h.ac i hj hi,
    (h.qa.symm.grow p7 h.hq.lt).symm, h.qb, h.qc, h.ab.grow p7 h.hb.lt, h.ac.grow p7 h.hc.lt, h.bc, fun i hi => ?_⟩, hk⟩
  have hg := h.ge i
  simp only [List.mem_append] at hi hg
  rcases hi with ((hi | hi) | hi) | hi
  · exact hg (.inl (.inl (.inl hi)))
  · exact (p7 i hi).elim (fun h => hg (.inl (.inl (.inr h)))) fun h => by omega
  · exact hg (.inl (.inr hi))
  · exact hg (.inr hi)
theorem MsgM.apB (h : MsgM H n0 q a b c m) (hn : n0 ≤ H.n) {y : AV} {L : List Lv} {g : Nat} {r : Rr} (hy : srcV ⟨L, g, H⟩ y = [eR.v r] ∧ srcC ⟨L, g, H⟩ 5 y) (hl : m.au.length ≤ 100000) :
    apC ⟨L, g, H⟩ 5 56 y b ∧ ∃ b' H', apV ⟨L, g, H⟩ y b = b' ∧ apM ⟨L, g, H⟩ 5 y b = ⟨L, g, H'⟩ ∧ MsgM H' n0 q a b' c ⟨m.h, m.q, m.an, m.au ++ [r], m.ex⟩ ∧ Kp (idA b) H H' := by
  obtain ⟨p1, b', H', p2, p3, p4, p5, p6, p7, -⟩ := Mn.ap (by' := 56) h.hb hy (by rw [List.length_map, List.length_singleton]; omega)
  have e : (m.au.map eR.v ++ [eR.v r]) = (m.au ++ [r]).map eR.v := by rw [List.map_append]; rfl
  rw [e] at p4
  have hk : Kp (idA b) H H' := ⟨p5, fun i hi hn => p6 i hi hn⟩
  refine ⟨p1, b', H', p2, p3, ⟨hk.mn h.hq h.qb, hk.mn h.ha h.ab, p4, hk.mn h.hc fun i hi hj => h.bc i hj hi,
    h.qa, (h.qb.symm.grow p7 h.hq.lt).symm, h.qc, (h.ab.symm.grow p7 h.ha.lt).symm, h.ac, h.bc.grow p7 h.hc.lt, fun i hi => ?_⟩, hk⟩
  have hg := h.ge i
  simp only [List.mem_append] at hi hg
  rcases hi with ((hi | hi) | hi) | hi
  · exact hg (.inl (.inl (.inl hi)))
  · exact hg (.inl (.inl (.inr hi)))
  · exact (p7 i hi).elim (fun h => hg (.inl (.inr h))) fun h => by omega
  · exact hg (.inr hi)
theorem MsgM.apC' (h : MsgM H n0 q a b c m) (hn : n0 ≤ H.n) {y : AV} {L : List Lv} {g : Nat} {r : Rr} (hy : srcV ⟨L, g, H⟩ y = [eR.v r] ∧ srcC ⟨L, g, H⟩ 5 y) (hl : m.ex.length ≤ 100000) :
    apC ⟨L, g, H⟩ 5 56 y c ∧ ∃ c' H', apV ⟨L, g, H⟩ y c = c' ∧ apM ⟨L, g, H⟩ 5 y c = ⟨L, g, H'⟩ ∧ MsgM H' n0 q a b c' ⟨m.h, m.q, m.an, m.au, m.ex ++ [r]⟩ ∧ Kp (idA c) H H' := by
  obtain ⟨p1, c', H', p2, p3, p4, p5, p6, p7, -⟩ := Mn.ap (by' := 56) h.hc hy (by rw [List.length_map, List.length_singleton]; omega)
  have e : (m.ex.map eR.v ++ [eR.v r]) = (m.ex ++ [r]).map eR.v := by rw [List.map_append]; rfl
  rw [e] at p4
  have hk : Kp (idA c) H H' := ⟨p5, fun i hi hn => p6 i hi hn⟩
  refine ⟨p1, c', H', p2, p3, ⟨hk.mn h.hq h.qc, hk.mn h.ha h.ac, hk.mn h.hb h.bc, p4,
    h.qa, h.qb, (h.qc.symm.grow p7 h.hq.lt).symm, h.ab, (h.ac.symm.grow p7 h.ha.lt).symm, (h.bc.symm.grow p7 h.hb.lt).symm, fun i hi => ?_⟩, hk⟩
  have hg := h.ge i
  simp only [List.mem_append] at hi hg
  rcases hi with ((hi | hi) | hi) | hi
  · exact hg (.inl (.inl (.inl hi)))
  · exact hg (.inl (.inl (.inr hi)))
  · exact hg (.inl (.inr hi))
  · exact (p7 i hi).elim (fun h => hg (.inr h)) fun h => by omega
theorem MsgM.low (h : MsgM H n0 q a b c m) : (∀ i, i ∈ idA q → n0 ≤ i) ∧ (∀ i, i ∈ idA a → n0 ≤ i) ∧ (∀ i, i ∈ idA b → n0 ≤ i) ∧ ∀ i, i ∈ idA c → n0 ≤ i := by
  have hg := h.ge
  simp only [List.mem_append] at hg
  exact ⟨fun i hi => hg i (.inl (.inl (.inl hi))), fun i hi => hg i (.inl (.inl (.inr hi))), fun i hi => hg i (.inl (.inr hi)), fun i hi => hg i (.inr hi)⟩
end
/-! Bounds. -/
theorem recR_ok {l : List UInt8} {p q : Nat} {r : Rr} (h : recR l p = .ok (r, q)) (hp : p ≤ l.length) : q ≤ l.length ∧ r.o.length ≤ 255 ∧ r.d.length ≤ 5610 + q := by
  unfold recR at h
  cases hd : dn l p p none [] with
  | error c' => rw [hd] at h; cases h
  | ok x =>
    obtain ⟨o, k⟩ := x
    rw [hd] at h
    simp only at h
    obtain ⟨-, d2, d3⟩ := dn_name hd
    split at h
    · cases h
    · split at h
      · cases h
      · rename_i h1 h2
        cases hx : datR l (b2 l k : Nat) (k + 10) (k + 10 + b2 l (k + 8)) with
        | error c' => rw [hx] at h; cases h
        | ok d =>
          rw [hx] at h
          injection h with h
          injection h with h h'
          subst h h'
          refine ⟨by omega, d2, ?_⟩
          show d.length ≤ _
          unfold datR at hx
          split at hx
          · injection hx with hx; subst hx; simp
          · split at hx
            · have := ptGo_len hx
              have := sform_len (b2 l k : Nat)
              simp only [List.length_nil] at *
              omega
            · split at hx
              · injection hx with hx; subst hx
                rw [List.length_take]; omega
              · cases hx
end Go.Vm
/- Messages read: the specification's reader. -/
namespace Go.Vm
set_option linter.unusedVariables false
set_option linter.unusedSimpArgs false
def RdPost (r : Except Int (Msg × Nat)) (H : AH) (v : AV) (H' : AH) : Prop := Ext H H' ∧ match r with
  | .error c => v = .tp [mV hd0 .ns .ns .ns .ns, .i .i64 0, .i .i64 c]
  | .ok (m, la) => ∃ q a b c, v = .tp [mV m.h q a b c, .i .i64 (la : Nat), .i .i64 0] ∧ MsgM H' H.n q a b c m
def T_l04Read (C : Tab) (f : Nat) : Prop := ∀ (a : AV) (l : List UInt8) (H : AH), Byt H a l → Cl H a → l.length ≤ 1099511627776 → ∃ v H', C f [a] H = some (v, H') ∧ RdPost (msgR l) H v H'
def cntL (l : List UInt8) : List AV := [.i .i64 (b2 l 4), .i .i64 (b2 l 6), .i .i64 (b2 l 8), .i .i64 (b2 l 10)]
def lsRd (h : Hd) (l : List UInt8) (q a b c : AV) : List Lv := [⟨8, 3, 0, [mV h q a b c]⟩, ⟨6, 2, 0, [.ag (cntL l)]⟩, ⟨2, 0, 0, [mV hd0 .ns .ns .ns .ns]⟩]
theorem MsgM.nilh (H : AH) (n0 : Nat) (h : Hd) : MsgM H n0 .ns .ns .ns .ns ⟨h, [], [], [], []⟩ := ⟨.nil, .nil, .nil, .nil, fun i hi => by simp [idA] at hi, fun i hi => by simp [idA] at hi, fun i hi => by simp [idA] at hi, fun i hi => by simp [idA] at hi, fun i hi => by simp [idA] at hi, fun i hi => by simp [idA] at hi, fun i hi => by simp [idA] at hi⟩
def msgK (l : List UInt8) (k : Nat) (m : Msg) (p la : Nat) : Except Int (Msg × Nat) :=
  if k = 1 then msgA l (b2 l 6) m p la else if k = 2 then msgB l (b2 l 8) m p la else if k = 3 then msgC l (b2 l 10) m p la else if p = l.length then .ok (m, la) else .error 10
section
variable {C : Tab}
set_option maxRecDepth 100000 in
set_option maxHeartbeats 2000000 in
theorem r_l04Read {a : AV} {l : List UInt8} {H : AH} (hH : T_Head C n_spec_DecodeHead) (hN : T_DecodeName C n_spec_DecodeName) (hU : T_l02Num C n_spec_l02Num) (hR : T_l04Record C n_spec_l04Record)
    (h : Byt H a l) (hc : Cl H a) (hl0 : l.length ≤ 1099511627776) : Runs C c_spec_l04Read [a] H (RdPost (msgR l) H) := by
  unfold Runs c_spec_l04Read
  obtain ⟨l1, l2⟩ := h.len
  have oa := h.out
  unfold msgR
  by_cases g1 : 65535 < l.length
  · rw [if_pos g1]
    have g1' : (65535 : Int) < (l.length : Int) := by omega
    simp -implicitDefEqProofs only [bU, reduceIte, Nat.reduceEqDiff, reduceCtorEq, implies_true, forall_const, eq_self, Nat.reduceAdd, Nat.reduceLT, bne_self_eq_false, bT, eq_self, true_implies, false_implies, forall_const, if_true, if_false, Int.reduceToNat, Nat.reduceSub, Int.reduceLE, bV, Nat.reduceAdd, Nat.reduceLT, Nat.reduceLeDiff, Nat.reduceLeDiff, l1, l2, g1', endK, rsC, rsV, resV]
    exact ⟨.refl H, rfl⟩
  rw [if_neg g1]
  have g1' : ¬ (65535 : Int) < (l.length : Int) := by omega
  have hl : l.length ≤ 65535 := by omega
  obtain ⟨v1, H1, k1, rfl, rfl⟩ := hH a l H h hc
  unfold headV at k1
  by_cases g2 : l.length < 12
  · rw [if_pos g2] at k1
    rw [if_pos g2]
    simp only [eH, Enc.v, hd0, cnt0] at k1
    simp -implicitDefEqProofs only [bU, reduceIte, Nat.reduceEqDiff, reduceCtorEq, implies_true, forall_const, eq_self, Nat.reduceAdd, Nat.reduceLT, bne_self_eq_false, bT, eq_self, true_implies, false_implies, forall_const, if_true, if_false, Int.reduceToNat, Nat.reduceSub, Int.reduceLE, bV, Nat.reduceAdd, Nat.reduceLT, Nat.reduceLeDiff, Nat.reduceLeDiff, l1, l2, g1', oa, k1, Int.reduceEq, endK, rsC, rsV, resV]
    exact ⟨.refl H1, rfl⟩
  rw [if_neg g2] at k1
  rw [if_neg g2]
  rw [cntV, b2_take (by omega), b2_take (by omega), b2_take (by omega), b2_take (by omega)] at k1
  simp only [eH, Enc.v] at k1
  have t4 := b2_lt (l := l) (k := 4) (by omega)
  have t6 := b2_lt (l := l) (k := 6) (by omega)
  have t8 := b2_lt (l := l) (k := 8) (by omega)
  have t10 := b2_lt (l := l) (k := 10) (by omega)
  have w1 : IntKind.i64.wrap ((b2 l 4 : Nat) + (b2 l 6 : Nat)) = ((b2 l 4 + b2 l 6 : Nat) : Int) := by rw [w64 (by omega) (by omega)]; omega
  have w2 : IntKind.i64.wrap ((b2 l 4 + b2 l 6 : Nat) + (b2 l 8 : Nat)) = ((b2 l 4 + b2 l 6 + b2 l 8 : Nat) : Int) := by rw [w64 (by omega) (by omega)]; omega
  have w3 : IntKind.i64.wrap ((b2 l 4 + b2 l 6 + b2 l 8 : Nat) + (b2 l 10 : Nat)) = ((b2 l 4 + b2 l 6 + b2 l 8 + b2 l 10 : Nat) : Int) := by rw [w64 (by omega) (by omega)]; omega
  by_cases g3 : 400 < b2 l 4 + b2 l 6 + b2 l 8 + b2 l 10
  · rw [if_pos g3]
    have g3' : (400 : Int) < ((b2 l 4 + b2 l 6 + b2 l 8 + b2 l 10 : Nat) : Int) := by omega
    simp -implicitDefEqProofs only [bU, reduceIte, Nat.reduceEqDiff, reduceCtorEq, implies_true, forall_const, eq_self, Nat.reduceAdd, Nat.reduceLT, bne_self_eq_false, bT, eq_self, true_implies, false_implies, forall_const, if_true, if_false, Int.reduceToNat, Nat.reduceSub, Int.reduceLE, bV, Nat.reduceAdd, Nat.reduceLT, Nat.reduceLeDiff, Nat.reduceLeDiff, l1, l2, g1', oa, k1, Int.reduceEq, Int.reduceLT, Int.reduceToNat, Nat.reduceMul, show ((4 : Nat) : Int) = 4 from rfl, w1, w2, w3, g3', endK, rsC, rsV, resV]
    exact ⟨.refl H1, rfl⟩
  rw [if_neg g3]
  have g3' : ¬ (400 : Int) < ((b2 l 4 + b2 l 6 + b2 l 8 + b2 l 10 : Nat) : Int) := by omega
  generalize hdOf (l.take 12) = hh at *
  simp -implicitDefEqProofs only [bU, reduceIte, Nat.reduceEqDiff, reduceCtorEq, implies_true, forall_const, eq_self, Nat.reduceAdd, Nat.reduceLT, bne_self_eq_false, bT, eq_self, true_implies, false_implies, forall_const, if_true, if_false, Int.reduceToNat, Nat.reduceSub, Int.reduceLE, bV, Nat.reduceAdd, Nat.reduceLT, Nat.reduceLeDiff, Nat.reduceLeDiff, l1, l2, g1', oa, k1, Int.reduceEq, Int.reduceLT, Int.reduceToNat, Nat.reduceMul, show ((4 : Nat) : Int) = 4 from rfl, w1, w2, w3, g3']
  refine exec_loop (fun n e M => ∃ (j p : Nat) (qs : List Qn) (q : AV) (H' : AH) (L : List Lv) (g : Nat), j ≤ b2 l 4 ∧ n = b2 l 4 - j ∧ p ≤ l.length ∧ qs.length = j ∧ look e 0 = a ∧ look e 2 = .la 2 0 0 0 ∧ look e 6 = .la 6 2 0 0 ∧ look e 8 = .la 8 3 0 0 ∧ look e 9 = .i .i64 p ∧ look e 10 = .i .i64 0 ∧ look e 11 = .i .i64 j ∧
    M = ⟨L, g, H'⟩ ∧ keepL [0, 2, 6, 8, 9, 10, 11] L = lsRd hh l q .ns .ns .ns ∧ Ext H1 H' ∧ MsgM H' H1.n q .ns .ns .ns ⟨hh, qs, [], [], []⟩ ∧ msgQ l (b2 l 4) ⟨hh, [], [], [], []⟩ 12 = msgQ l (b2 l 4 - j) ⟨hh, qs, [], [], []⟩ p) ?_ (n := b2 l 4)
    ⟨0, 12, [], .ns, H1, _, _, by omega, by omega, by omega, rfl, rfl, rfl, rfl, rfl, rfl, rfl, rfl, rfl, rfl, .refl H1, MsgM.nilh _ _ _, rfl⟩
  rintro n e M ⟨j, p, qs, q, H', L, g, hj, rfl, hp, hqs, q0, q2, q6, q8, q9, q10, q11, rfl, hL, he, hm, hg⟩
  simp only [lsRd, mV, cntL, hd0] at hL
  have hs : Byt H' a l := h.ext he
  have hc' : Cl H' a := hc.fr fun i hi => he.at' i (Sl.lt h i hi)
  obtain ⟨l1', l2'⟩ := hs.len
  have oq := hm.hq.sl.out
  have oq1 := hm.hq.sl.one
  by_cases h1 : (j : Int) < (b2 l 4 : Nat)
  · have w4 : IntKind.i64.wrap ((j : Int) + 1) = ((j + 1 : Nat) : Int) := by rw [w64 (by omega) (by omega)]; rfl
    obtain ⟨v2, H2, k2, rfl, e2⟩ := hN a l p H' hs hc' hl hp
    rw [show b2 l 4 - j = (b2 l 4 - (j + 1)) + 1 by omega, msgQ_s] at hg
    cases hd : dn l p p none [] with
    | error c =>
      rw [hd] at hg k2
      have hc0 := dn_e hd
      simp only [dnV] at k2
      simp -implicitDefEqProofs only [bU, reduceIte, Nat.reduceEqDiff, reduceCtorEq, implies_true, forall_const, eq_self, Nat.reduceAdd, Nat.reduceLT, bne_self_eq_false, bT, eq_self, true_implies, false_implies, forall_const, if_true, if_false, Int.reduceToNat, Nat.reduceSub, Int.reduceLE, bV, Nat.reduceAdd, Nat.reduceLT, Nat.reduceLeDiff, Nat.reduceLeDiff, q0, q2, q6, q8, q9, q10, q11, hL, oa, h1, k2, hc0, Int.reduceLT, Int.reduceToNat, Nat.reduceMul, show ((4 : Nat) : Int) = 4 from rfl, endK, rsC, rsV, resV]
      rw [hg]
      exact ⟨he.trans e2, rfl⟩
    | ok r =>
      obtain ⟨s, k⟩ := r
      rw [hd] at hg k2
      obtain ⟨-, d2, d3⟩ := dn_name hd
      simp only [dnV] at k2
      simp only at hg
      have hs2 : Byt H2 a l := hs.ext e2
      have hc2 : Cl H2 a := hc'.fr fun i hi => e2.at' i (Sl.lt hs i hi)
      obtain ⟨l3, l4⟩ := hs2.len
      have w5 : IntKind.i64.wrap ((k : Int) + 4) = ((k + 4 : Nat) : Int) := by rw [w64 (by omega) (by omega)]; rfl
      by_cases h2 : l.length < k + 4
      · rw [if_pos h2] at hg
        have h2' : (l.length : Int) < ((k + 4 : Nat) : Int) := by omega
        simp -implicitDefEqProofs only [bU, reduceIte, Nat.reduceEqDiff, reduceCtorEq, implies_true, forall_const, eq_self, Nat.reduceAdd, Nat.reduceLT, bne_self_eq_false, bT, eq_self, true_implies, false_implies, forall_const, if_true, if_false, Int.reduceToNat, Nat.reduceSub, Int.reduceLE, bV, Nat.reduceAdd, Nat.reduceLT, Nat.reduceLeDiff, Nat.reduceLeDiff, q0, q2, q6, q8, q9, q10, q11, hL, oa, h1, k2, l3, l4, w5, h2', Int.reduceEq, Int.reduceLT, Int.reduceToNat, Nat.reduceMul, show ((4 : Nat) : Int) = 4 from rfl, endK, rsC, rsV, resV]
        rw [hg]
        exact ⟨he.trans e2, rfl⟩
      rw [if_neg h2] at hg
      have h2' : ¬ (l.length : Int) < ((k + 4 : Nat) : Int) := by omega
      obtain ⟨t1, t2, t3⟩ := hs2.sub hc2 (lo := k) (hi := (k + 4 : Nat)) (by omega) (by omega) (by rw [enc_len]; omega)
      have hcl : ((encB l).drop (k : Int).toNat).take (((k + 4 : Nat) : Int).toNat - (k : Int).toNat) = encB ((l.drop k).take 4) := by
        rw [toNat_nat, toNat_nat, Nat.add_sub_cancel_left, enc_drop, enc_take]
      rw [hcl, toNat_nat, toNat_nat] at t3
      obtain ⟨c1, c2⟩ := Byt.cbs t3
      have hsl : ((l.drop k).take 4).length = 4 := by rw [List.length_take, List.length_drop]; omega
      have b0 : num (((l.drop k).take 4).take 2) 0 = b2 l k := by unfold b2; rw [List.take_take]; rfl
      have b02 : num (((l.drop k).take 4).drop 2) 0 = b2 l (k + 2) := by unfold b2; rw [List.drop_take, List.drop_drop]
      generalize hS : (l.drop k).take 4 = S at *
      have u0 := fun H => hU (S.take 2) H (by rw [List.length_take]; omega)
      have u2 := fun H => hU (S.drop 2) H (by rw [List.length_drop]; omega)
      rw [b0] at u0
      rw [b02] at u2
      have s2 : List.take (4 - 2) (S.drop 2) = S.drop 2 := List.take_of_length_le (by rw [List.length_drop]; omega)
      have g4 : (2 : Int) ≤ ((4 : Nat) : Int) := by omega
      have hm2 := hm.ext e2
      obtain ⟨p1, q', H3, p2, p3, p4, p5⟩ := hm2.apQ (by have := he.n; have := e2.n; omega) (lit_srcQ (t := 89) (g := g) (x := ⟨s, (b2 l k : Nat), (b2 l (k + 2) : Nat)⟩) (L := lsRd hh l q .ns .ns .ns) (H := H2)) (by simp only; omega)
      simp only [lsRd, mV, cntL, hd0] at p1 p2 p3
      have oq' := p4.hq.sl.out
      have oq1' := p4.hq.sl.one
      simp -implicitDefEqProofs only [bU, reduceIte, Nat.reduceEqDiff, reduceCtorEq, implies_true, forall_const, eq_self, Nat.reduceAdd, Nat.reduceLT, bne_self_eq_false, bT, eq_self, true_implies, false_implies, forall_const, if_true, if_false, Int.reduceToNat, Nat.reduceSub, Int.reduceLE, bV, Nat.reduceAdd, Nat.reduceLT, Nat.reduceLeDiff, Nat.reduceLeDiff, lgAt, isRd, q0, q2, q6, q8, q9, q10, q11, hL, oa, oq, oq1, h1, k2, l3, l4, w4, w5, h2', t1, t2, c1, c2, hsl, s2, g4, u0, u2, toNat_nat, Int.reduceEq, Int.reduceLT, Int.reduceToNat, Nat.reduceMul, show ((4 : Nat) : Int) = 4 from rfl, fillEC, fillE, List.replicate, List.set]
      simp -implicitDefEqProofs only [bU, reduceIte, Nat.reduceEqDiff, reduceCtorEq, implies_true, forall_const, eq_self, Nat.reduceAdd, Nat.reduceLT, bne_self_eq_false, bT, eq_self, true_implies, false_implies, forall_const, if_true, if_false, Int.reduceToNat, Nat.reduceSub, Int.reduceLE, bV, Nat.reduceAdd, Nat.reduceLT, Nat.reduceLeDiff, Nat.reduceLeDiff, p1, p2, p3, oq', oq1']
      refine ⟨_, by omega, j + 1, k + 4, qs ++ [⟨s, (b2 l k : Nat), (b2 l (k + 2) : Nat)⟩], q', H3, _, _, by omega, rfl, by omega, by rw [List.length_append, hqs]; rfl, rfl, rfl, rfl, rfl, Kp.put (he.trans e2) p5 hm.low.1, p4, hg⟩
  · have hj1 : b2 l 4 - j = 0 := by omega
    rw [hj1, msgQ_0] at hg
    simp -implicitDefEqProofs only [bU, reduceIte, Nat.reduceEqDiff, reduceCtorEq, implies_true, forall_const, eq_self, Nat.reduceAdd, Nat.reduceLT, bne_self_eq_false, bT, eq_self, true_implies, false_implies, forall_const, if_true, if_false, Int.reduceToNat, Nat.reduceSub, Int.reduceLE, bV, Nat.reduceAdd, Nat.reduceLT, Nat.reduceLeDiff, Nat.reduceLeDiff, q0, q2, q6, q8, q9, q10, q11, hL, h1, Int.reduceLT, Int.reduceToNat, Nat.reduceMul, show ((4 : Nat) : Int) = 4 from rfl]
    refine exec_loop (fun n e M => ∃ (k p la : Nat) (an au ex : List Rr) (ra rb rc : AV) (H' : AH) (L : List Lv) (g : Nat), 1 ≤ k ∧ k ≤ 4 ∧ n = 4 - k ∧ p ≤ l.length ∧ an.length ≤ 400 * k ∧ au.length ≤ 400 * k ∧ ex.length ≤ 400 * k ∧ look e 0 = a ∧ look e 2 = .la 2 0 0 0 ∧ look e 6 = .la 6 2 0 0 ∧ look e 8 = .la 8 3 0 0 ∧ look e 9 = .i .i64 p ∧ look e 10 = .i .i64 la ∧ look e 16 = .i .i64 k ∧
      M = ⟨L, g, H'⟩ ∧ keepL [0, 2, 6, 8, 9, 10, 16] L = lsRd hh l q ra rb rc ∧ Ext H1 H' ∧ MsgM H' H1.n q ra rb rc ⟨hh, qs, an, au, ex⟩ ∧ msgQ l (b2 l 4) ⟨hh, [], [], [], []⟩ 12 = msgK l k ⟨hh, qs, an, au, ex⟩ p la) ?_ (n := 3)
      ⟨1, p, 0, [], [], [], .ns, .ns, .ns, H', _, _, by omega, by omega, by omega, hp, by simp, by simp, by simp, rfl, rfl, rfl, rfl, rfl, rfl, rfl, rfl, rfl, he, hm, hg⟩
    clear hg hm he hL q0 q2 q6 q8 q9 q10 q11 hs hc' l1' l2' hp h1 hj1
    clear H' p
    rintro n e M ⟨k, p, la, an, au, ex, ra, rb, rc, H', L, g, hk1, hk4, rfl, hp, y1, y2, y3, q0, q2, q6, q8, q9, q10, q16, rfl, hL, he, hm, hg⟩
    simp only [lsRd, mV, cntL, hd0] at hL
    have hs : Byt H' a l := h.ext he
    obtain ⟨l1', l2'⟩ := hs.len
    have oq1 := hm.hq.sl.out
    have oa1 := hm.ha.sl.out
    have ob1 := hm.hb.sl.out
    have oc1 := hm.hc.sl.out
    obtain rfl | rfl | rfl | rfl : k = 1 ∨ k = 2 ∨ k = 3 ∨ k = 4 := by omega
    · rw [msgK, if_pos rfl] at hg
      have kk : ((1 : Nat) : Int) = 1 := rfl
      have w6 : IntKind.i64.wrap (1 + 1) = 2 := by decide
      simp -implicitDefEqProofs only [bU, reduceIte, Nat.reduceEqDiff, reduceCtorEq, implies_true, forall_const, eq_self, Nat.reduceAdd, Nat.reduceLT, bne_self_eq_false, bT, eq_self, true_implies, false_implies, forall_const, if_true, if_false, Int.reduceToNat, Nat.reduceSub, Int.reduceLE, bV, Nat.reduceAdd, Nat.reduceLT, Nat.reduceLeDiff, Nat.reduceLeDiff, q0, q2, q6, q8, q9, q10, q16, hL, kk, Int.reduceLT, Int.reduceToNat, Nat.reduceMul, show ((4 : Nat) : Int) = 4 from rfl]
      refine exec_loop (fun n e M => ∃ (j p la : Nat) (xs : List Rr) (rx : AV) (H' : AH) (L : List Lv) (g : Nat), j ≤ b2 l 6 ∧ n = b2 l 6 - j ∧ p ≤ l.length ∧ xs.length ≤ 400 * 1 + j ∧ look e 0 = a ∧ look e 2 = .la 2 0 0 0 ∧ look e 6 = .la 6 2 0 0 ∧ look e 8 = .la 8 3 0 0 ∧ look e 9 = .i .i64 p ∧ look e 10 = .i .i64 la ∧ look e 16 = .i .i64 1 ∧ look e 17 = .i .i64 j ∧
        M = ⟨L, g, H'⟩ ∧ keepL [0, 2, 6, 8, 9, 10, 16, 17] L = lsRd hh l q rx rb rc ∧ Ext H1 H' ∧ MsgM H' H1.n q rx rb rc ⟨hh, qs, xs, au, ex⟩ ∧ msgQ l (b2 l 4) ⟨hh, [], [], [], []⟩ 12 = msgA l (b2 l 6 - j) ⟨hh, qs, xs, au, ex⟩ p la) ?_ (n := b2 l 6)
        ⟨0, p, la, an, ra, H', _, _, by omega, by omega, hp, by omega, rfl, rfl, rfl, rfl, rfl, rfl, rfl, rfl, rfl, rfl, he, hm, hg⟩
      clear hg hm he hL q0 q2 q6 q8 q9 q10 q16 hs l1' l2' hp oq1 oa1 ob1 oc1 y1
      clear H' p la an ra
      rintro n e M ⟨j, p, la, xs, rx, H', L, g, hj, rfl, hp, y1, q0, q2, q6, q8, q9, q10, q16, q17, rfl, hL, he, hm, hg⟩
      simp only [lsRd, mV, cntL, hd0] at hL
      have hs : Byt H' a l := h.ext he
      have hc' : Cl H' a := hc.fr fun i hi => he.at' i (Sl.lt h i hi)
      have oq1 := hm.hq.sl.out
      have oa1 := hm.ha.sl.out
      have ob1 := hm.hb.sl.out
      have oc1 := hm.hc.sl.out
      by_cases h1 : (j : Int) < (b2 l 6 : Nat)
      · have w4 : IntKind.i64.wrap ((j : Int) + 1) = ((j + 1 : Nat) : Int) := by rw [w64 (by omega) (by omega)]; rfl
        obtain ⟨v2, H2, k2, rfl, e2⟩ := hR a l p H' hs hc' hl hp
        rw [show b2 l 6 - j = (b2 l 6 - (j + 1)) + 1 by omega, msgA_s] at hg
        cases hd : recR l p with
        | error c =>
          rw [hd] at hg k2
          have hc0 := recR_e hd
          simp only [recV, eR, Enc.v, zr] at k2
          simp -implicitDefEqProofs only [bU, reduceIte, Nat.reduceEqDiff, reduceCtorEq, implies_true, forall_const, eq_self, Nat.reduceAdd, Nat.reduceLT, bne_self_eq_false, bT, eq_self, true_implies, false_implies, forall_const, if_true, if_false, Int.reduceToNat, Nat.reduceSub, Int.reduceLE, bV, Nat.reduceAdd, Nat.reduceLT, Nat.reduceLeDiff, Nat.reduceLeDiff, q0, q2, q6, q8, q9, q10, q16, q17, hL, oa, h1, k2, hc0, Int.reduceLT, Int.reduceToNat, Nat.reduceMul, show ((4 : Nat) : Int) = 4 from rfl, endK, rsC, rsV, resV]
          rw [hg]
          exact ⟨he.trans e2, rfl⟩
        | ok z =>
          obtain ⟨r, k⟩ := z
          rw [hd] at hg k2
          simp only [recV, eR, Enc.v] at k2
          simp only at hg
          have hk := (recR_ok hd hp).1
          have hm2 := hm.ext e2
          obtain ⟨p1, r', H3, p2, p3, p4, p5⟩ := hm2.apA (by have := he.n; have := e2.n; omega) (lit_srcR (t := 124) (g := g + 1) (x := r) (L := ⟨18, g, 0, [eR.v r]⟩ :: lsRd hh l q rx rb rc) (H := H2)) (by simp only; omega)
          simp only [lsRd, mV, cntL, hd0, eR, Enc.v] at p1 p2 p3
          have or' := p4.ha.sl.out
          have or1 := p4.ha.sl.one
          simp -implicitDefEqProofs only [bU, reduceIte, Nat.reduceEqDiff, reduceCtorEq, implies_true, forall_const, eq_self, Nat.reduceAdd, Nat.reduceLT, bne_self_eq_false, bT, eq_self, true_implies, false_implies, forall_const, if_true, if_false, Int.reduceToNat, Nat.reduceSub, Int.reduceLE, bV, Nat.reduceAdd, Nat.reduceLT, Nat.reduceLeDiff, Nat.reduceLeDiff, q0, q2, q6, q8, q9, q10, q16, q17, hL, oa, oq1, oa1, ob1, oc1, h1, k2, w4, toNat_nat, Int.reduceEq, Int.reduceLT, Int.reduceToNat, Nat.reduceMul, show ((4 : Nat) : Int) = 4 from rfl, fillEC, fillE, List.replicate, List.set]
          simp -implicitDefEqProofs only [bU, reduceIte, Nat.reduceEqDiff, reduceCtorEq, implies_true, forall_const, eq_self, Nat.reduceAdd, Nat.reduceLT, bne_self_eq_false, bT, eq_self, true_implies, false_implies, forall_const, if_true, if_false, Int.reduceToNat, Nat.reduceSub, Int.reduceLE, bV, Nat.reduceAdd, Nat.reduceLT, Nat.reduceLeDiff, Nat.reduceLeDiff, p1, p2, p3, or', or1]
          refine ⟨_, by omega, j + 1, k, p, xs ++ [r], r', H3, _, _, by omega, rfl, hk, by rw [List.length_append, List.length_singleton]; omega, rfl, rfl, rfl, rfl, rfl, Kp.put (he.trans e2) p5 hm.low.2.1, p4, hg⟩
      · have hj1 : b2 l 6 - j = 0 := by omega
        rw [hj1, msgA_0] at hg
        simp -implicitDefEqProofs only [bU, reduceIte, Nat.reduceEqDiff, reduceCtorEq, implies_true, forall_const, eq_self, Nat.reduceAdd, Nat.reduceLT, bne_self_eq_false, bT, eq_self, true_implies, false_implies, forall_const, if_true, if_false, Int.reduceToNat, Nat.reduceSub, Int.reduceLE, bV, Nat.reduceAdd, Nat.reduceLT, Nat.reduceLeDiff, Nat.reduceLeDiff, q0, q2, q6, q8, q9, q10, q16, q17, hL, h1, kk, w6, Int.reduceLT, Int.reduceToNat, Nat.reduceMul, show ((4 : Nat) : Int) = 4 from rfl]
        exact ⟨4 - 2, by omega, 2, p, la, xs, au, ex, rx, rb, rc, H', _, _, by omega, by omega, rfl, hp, by omega, by omega, by omega, rfl, rfl, rfl, rfl, rfl, he, hm, hg⟩
    · rw [msgK, if_neg (by omega), if_pos rfl] at hg
      have kk : ((2 : Nat) : Int) = 2 := rfl
      have w6 : IntKind.i64.wrap (2 + 1) = 3 := by decide
      simp -implicitDefEqProofs only [bU, reduceIte, Nat.reduceEqDiff, reduceCtorEq, implies_true, forall_const, eq_self, Nat.reduceAdd, Nat.reduceLT, bne_self_eq_false, bT, eq_self, true_implies, false_implies, forall_const, if_true, if_false, Int.reduceToNat, Nat.reduceSub, Int.reduceLE, bV, Nat.reduceAdd, Nat.reduceLT, Nat.reduceLeDiff, Nat.reduceLeDiff, q0, q2, q6, q8, q9, q10, q16, hL, kk, Int.reduceLT, Int.reduceToNat, Nat.reduceMul, show ((4 : Nat) : Int) = 4 from rfl]
      refine exec_loop (fun n e M => ∃ (j p la : Nat) (xs : List Rr) (rx : AV) (H' : AH) (L : List Lv) (g : Nat), j ≤ b2 l 8 ∧ n = b2 l 8 - j ∧ p ≤ l.length ∧ xs.length ≤ 400 * 2 + j ∧ look e 0 = a ∧ look e 2 = .la 2 0 0 0 ∧ look e 6 = .la 6 2 0 0 ∧ look e 8 = .la 8 3 0 0 ∧ look e 9 = .i .i64 p ∧ look e 10 = .i .i64 la ∧ look e 16 = .i .i64 2 ∧ look e 17 = .i .i64 j ∧
        M = ⟨L, g, H'⟩ ∧ keepL [0, 2, 6, 8, 9, 10, 16, 17] L = lsRd hh l q ra rx rc ∧ Ext H1 H' ∧ MsgM H' H1.n q ra rx rc ⟨hh, qs, an, xs, ex⟩ ∧ msgQ l (b2 l 4) ⟨hh, [], [], [], []⟩ 12 = msgB l (b2 l 8 - j) ⟨hh, qs, an, xs, ex⟩ p la) ?_ (n := b2 l 8)
        ⟨0, p, la, au, rb, H', _, _, by omega, by omega, hp, by omega, rfl, rfl, rfl, rfl, rfl, rfl, rfl, rfl, rfl, rfl, he, hm, hg⟩
      clear hg hm he hL q0 q2 q6 q8 q9 q10 q16 hs l1' l2' hp oq1 oa1 ob1 oc1 y2
      clear H' p la au rb
      rintro n e M ⟨j, p, la, xs, rx, H', L, g, hj, rfl, hp, y2, q0, q2, q6, q8, q9, q10, q16, q17, rfl, hL, he, hm, hg⟩
      simp only [lsRd, mV, cntL, hd0] at hL
      have hs : Byt H' a l := h.ext he
      have hc' : Cl H' a := hc.fr fun i hi => he.at' i (Sl.lt h i hi)
      have oq1 := hm.hq.sl.out
      have oa1 := hm.ha.sl.out
      have ob1 := hm.hb.sl.out
      have oc1 := hm.hc.sl.out
      by_cases h1 : (j : Int) < (b2 l 8 : Nat)
      · have w4 : IntKind.i64.wrap ((j : Int) + 1) = ((j + 1 : Nat) : Int) := by rw [w64 (by omega) (by omega)]; rfl
        obtain ⟨v2, H2, k2, rfl, e2⟩ := hR a l p H' hs hc' hl hp
        rw [show b2 l 8 - j = (b2 l 8 - (j + 1)) + 1 by omega, msgB_s] at hg
        cases hd : recR l p with
        | error c =>
          rw [hd] at hg k2
          have hc0 := recR_e hd
          simp only [recV, eR, Enc.v, zr] at k2
          simp -implicitDefEqProofs only [bU, reduceIte, Nat.reduceEqDiff, reduceCtorEq, implies_true, forall_const, eq_self, Nat.reduceAdd, Nat.reduceLT, bne_self_eq_false, bT, eq_self, true_implies, false_implies, forall_const, if_true, if_false, Int.reduceToNat, Nat.reduceSub, Int.reduceLE, bV, Nat.reduceAdd, Nat.reduceLT, Nat.reduceLeDiff, Nat.reduceLeDiff, q0, q2, q6, q8, q9, q10, q16, q17, hL, oa, h1, k2, hc0, Int.reduceLT, Int.reduceToNat, Nat.reduceMul, show ((4 : Nat) : Int) = 4 from rfl, endK, rsC, rsV, resV]
          rw [hg]
          exact ⟨he.trans e2, rfl⟩
        | ok z =>
          obtain ⟨r, k⟩ := z
          rw [hd] at hg k2
          simp only [recV, eR, Enc.v] at k2
          simp only at hg
          have hk := (recR_ok hd hp).1
          have hm2 := hm.ext e2
          obtain ⟨p1, r', H3, p2, p3, p4, p5⟩ := hm2.apB (by have := he.n; have := e2.n; omega) (lit_srcR (t := 132) (g := g + 1) (x := r) (L := ⟨18, g, 0, [eR.v r]⟩ :: lsRd hh l q ra rx rc) (H := H2)) (by simp only; omega)
          simp only [lsRd, mV, cntL, hd0, eR, Enc.v] at p1 p2 p3
          have or' := p4.hb.sl.out
          have or1 := p4.hb.sl.one
          simp -implicitDefEqProofs only [bU, reduceIte, Nat.reduceEqDiff, reduceCtorEq, implies_true, forall_const, eq_self, Nat.reduceAdd, Nat.reduceLT, bne_self_eq_false, bT, eq_self, true_implies, false_implies, forall_const, if_true, if_false, Int.reduceToNat, Nat.reduceSub, Int.reduceLE, bV, Nat.reduceAdd, Nat.reduceLT, Nat.reduceLeDiff, Nat.reduceLeDiff, q0, q2, q6, q8, q9, q10, q16, q17, hL, oa, oq1, oa1, ob1, oc1, h1, k2, w4, toNat_nat, Int.reduceEq, Int.reduceLT, Int.reduceToNat, Nat.reduceMul, show ((4 : Nat) : Int) = 4 from rfl, fillEC, fillE, List.replicate, List.set]
          simp -implicitDefEqProofs only [bU, reduceIte, Nat.reduceEqDiff, reduceCtorEq, implies_true, forall_const, eq_self, Nat.reduceAdd, Nat.reduceLT, bne_self_eq_false, bT, eq_self, true_implies, false_implies, forall_const, if_true, if_false, Int.reduceToNat, Nat.reduceSub, Int.reduceLE, bV, Nat.reduceAdd, Nat.reduceLT, Nat.reduceLeDiff, Nat.reduceLeDiff, p1, p2, p3, or', or1]
          refine ⟨_, by omega, j + 1, k, p, xs ++ [r], r', H3, _, _, by omega, rfl, hk, by rw [List.length_append, List.length_singleton]; omega, rfl, rfl, rfl, rfl, rfl, Kp.put (he.trans e2) p5 hm.low.2.2.1, p4, hg⟩
      · have hj1 : b2 l 8 - j = 0 := by omega
        rw [hj1, msgB_0] at hg
        simp -implicitDefEqProofs only [bU, reduceIte, Nat.reduceEqDiff, reduceCtorEq, implies_true, forall_const, eq_self, Nat.reduceAdd, Nat.reduceLT, bne_self_eq_false, bT, eq_self, true_implies, false_implies, forall_const, if_true, if_false, Int.reduceToNat, Nat.reduceSub, Int.reduceLE, bV, Nat.reduceAdd, Nat.reduceLT, Nat.reduceLeDiff, Nat.reduceLeDiff, q0, q2, q6, q8, q9, q10, q16, q17, hL, h1, kk, w6, Int.reduceLT, Int.reduceToNat, Nat.reduceMul, show ((4 : Nat) : Int) = 4 from rfl]
        exact ⟨4 - 3, by omega, 3, p, la, an, xs, ex, ra, rx, rc, H', _, _, by omega, by omega, rfl, hp, by omega, by omega, by omega, rfl, rfl, rfl, rfl, rfl, he, hm, hg⟩
    · rw [msgK, if_neg (by omega), if_neg (by omega), if_pos rfl] at hg
      have kk : ((3 : Nat) : Int) = 3 := rfl
      have w6 : IntKind.i64.wrap (3 + 1) = 4 := by decide
      simp -implicitDefEqProofs only [bU, reduceIte, Nat.reduceEqDiff, reduceCtorEq, implies_true, forall_const, eq_self, Nat.reduceAdd, Nat.reduceLT, bne_self_eq_false, bT, eq_self, true_implies, false_implies, forall_const, if_true, if_false, Int.reduceToNat, Nat.reduceSub, Int.reduceLE, bV, Nat.reduceAdd, Nat.reduceLT, Nat.reduceLeDiff, Nat.reduceLeDiff, q0, q2, q6, q8, q9, q10, q16, hL, kk, Int.reduceLT, Int.reduceToNat, Nat.reduceMul, show ((4 : Nat) : Int) = 4 from rfl]
      refine exec_loop (fun n e M => ∃ (j p la : Nat) (xs : List Rr) (rx : AV) (H' : AH) (L : List Lv) (g : Nat), j ≤ b2 l 10 ∧ n = b2 l 10 - j ∧ p ≤ l.length ∧ xs.length ≤ 400 * 3 + j ∧ look e 0 = a ∧ look e 2 = .la 2 0 0 0 ∧ look e 6 = .la 6 2 0 0 ∧ look e 8 = .la 8 3 0 0 ∧ look e 9 = .i .i64 p ∧ look e 10 = .i .i64 la ∧ look e 16 = .i .i64 3 ∧ look e 17 = .i .i64 j ∧
        M = ⟨L, g, H'⟩ ∧ keepL [0, 2, 6, 8, 9, 10, 16, 17] L = lsRd hh l q ra rb rx ∧ Ext H1 H' ∧ MsgM H' H1.n q ra rb rx ⟨hh, qs, an, au, xs⟩ ∧ msgQ l (b2 l 4) ⟨hh, [], [], [], []⟩ 12 = msgC l (b2 l 10 - j) ⟨hh, qs, an, au, xs⟩ p la) ?_ (n := b2 l 10)
        ⟨0, p, la, ex, rc, H', _, _, by omega, by omega, hp, by omega, rfl, rfl, rfl, rfl, rfl, rfl, rfl, rfl, rfl, rfl, he, hm, hg⟩
      clear hg hm he hL q0 q2 q6 q8 q9 q10 q16 hs l1' l2' hp oq1 oa1 ob1 oc1 y3
      clear H' p la ex rc
      rintro n e M ⟨j, p, la, xs, rx, H', L, g, hj, rfl, hp, y3, q0, q2, q6, q8, q9, q10, q16, q17, rfl, hL, he, hm, hg⟩
      simp only [lsRd, mV, cntL, hd0] at hL
      have hs : Byt H' a l := h.ext he
      have hc' : Cl H' a := hc.fr fun i hi => he.at' i (Sl.lt h i hi)
      have oq1 := hm.hq.sl.out
      have oa1 := hm.ha.sl.out
      have ob1 := hm.hb.sl.out
      have oc1 := hm.hc.sl.out
      by_cases h1 : (j : Int) < (b2 l 10 : Nat)
      · have w4 : IntKind.i64.wrap ((j : Int) + 1) = ((j + 1 : Nat) : Int) := by rw [w64 (by omega) (by omega)]; rfl
        obtain ⟨v2, H2, k2, rfl, e2⟩ := hR a l p H' hs hc' hl hp
        rw [show b2 l 10 - j = (b2 l 10 - (j + 1)) + 1 by omega, msgC_s] at hg
        cases hd : recR l p with
        | error c =>
          rw [hd] at hg k2
          have hc0 := recR_e hd
          simp only [recV, eR, Enc.v, zr] at k2
          simp -implicitDefEqProofs only [bU, reduceIte, Nat.reduceEqDiff, reduceCtorEq, implies_true, forall_const, eq_self, Nat.reduceAdd, Nat.reduceLT, bne_self_eq_false, bT, eq_self, true_implies, false_implies, forall_const, if_true, if_false, Int.reduceToNat, Nat.reduceSub, Int.reduceLE, bV, Nat.reduceAdd, Nat.reduceLT, Nat.reduceLeDiff, Nat.reduceLeDiff, q0, q2, q6, q8, q9, q10, q16, q17, hL, oa, h1, k2, hc0, Int.reduceLT, Int.reduceToNat, Nat.reduceMul, show ((4 : Nat) : Int) = 4 from rfl, endK, rsC, rsV, resV]
          rw [hg]
          exact ⟨he.trans e2, rfl⟩
        | ok z =>
          obtain ⟨r, k⟩ := z
          rw [hd] at hg k2
          simp only [recV, eR, Enc.v] at k2
          simp only at hg
          have hk := (recR_ok hd hp).1
          have hm2 := hm.ext e2
          obtain ⟨p1, r', H3, p2, p3, p4, p5⟩ := hm2.apC' (by have := he.n; have := e2.n; omega) (lit_srcR (t := 140) (g := g + 1) (x := r) (L := ⟨18, g, 0, [eR.v r]⟩ :: lsRd hh l q ra rb rx) (H := H2)) (by simp only; omega)
          simp only [lsRd, mV, cntL, hd0, eR, Enc.v] at p1 p2 p3
          have or' := p4.hc.sl.out
          have or1 := p4.hc.sl.one
          simp -implicitDefEqProofs only [bU, reduceIte, Nat.reduceEqDiff, reduceCtorEq, implies_true, forall_const, eq_self, Nat.reduceAdd, Nat.reduceLT, bne_self_eq_false, bT, eq_self, true_implies, false_implies, forall_const, if_true, if_false, Int.reduceToNat, Nat.reduceSub, Int.reduceLE, bV, Nat.reduceAdd, Nat.reduceLT, Nat.reduceLeDiff, Nat.reduceLeDiff, q0, q2, q6, q8, q9, q10, q16, q17, hL, oa, oq1, oa1, ob1, oc1, h1, k2, w4, toNat_nat, Int.reduceEq, Int.reduceLT, Int.reduceToNat, Nat.reduceMul, show ((4 : Nat) : Int) = 4 from rfl, fillEC, fillE, List.replicate, List.set]
          simp -implicitDefEqProofs only [bU, reduceIte, Nat.reduceEqDiff, reduceCtorEq, implies_true, forall_const, eq_self, Nat.reduceAdd, Nat.reduceLT, bne_self_eq_false, bT, eq_self, true_implies, false_implies, forall_const, if_true, if_false, Int.reduceToNat, Nat.reduceSub, Int.reduceLE, bV, Nat.reduceAdd, Nat.reduceLT, Nat.reduceLeDiff, Nat.reduceLeDiff, p1, p2, p3, or', or1]
          refine ⟨_, by omega, j + 1, k, p, xs ++ [r], r', H3, _, _, by omega, rfl, hk, by rw [List.length_append, List.length_singleton]; omega, rfl, rfl, rfl, rfl, rfl, Kp.put (he.trans e2) p5 hm.low.2.2.2, p4, hg⟩
      · have hj1 : b2 l 10 - j = 0 := by omega
        rw [hj1, msgC_0] at hg
        simp -implicitDefEqProofs only [bU, reduceIte, Nat.reduceEqDiff, reduceCtorEq, implies_true, forall_const, eq_self, Nat.reduceAdd, Nat.reduceLT, bne_self_eq_false, bT, eq_self, true_implies, false_implies, forall_const, if_true, if_false, Int.reduceToNat, Nat.reduceSub, Int.reduceLE, bV, Nat.reduceAdd, Nat.reduceLT, Nat.reduceLeDiff, Nat.reduceLeDiff, q0, q2, q6, q8, q9, q10, q16, q17, hL, h1, kk, w6, Int.reduceLT, Int.reduceToNat, Nat.reduceMul, show ((4 : Nat) : Int) = 4 from rfl]
        exact ⟨4 - 4, by omega, 4, p, la, an, au, xs, ra, rb, rx, H', _, _, by omega, by omega, rfl, hp, by omega, by omega, by omega, rfl, rfl, rfl, rfl, rfl, he, hm, hg⟩
    · rw [msgK, if_neg (by omega), if_neg (by omega), if_neg (by omega)] at hg
      have kk : ((4 : Nat) : Int) = 4 := rfl
      by_cases h1 : p = l.length
      · rw [if_pos h1] at hg
        have h1' : ((p : Int) = (l.length : Int)) = True := eq_true (by omega)
        simp -implicitDefEqProofs only [bU, reduceIte, Nat.reduceEqDiff, reduceCtorEq, implies_true, forall_const, eq_self, Nat.reduceAdd, Nat.reduceLT, bne_self_eq_false, bT, eq_self, true_implies, false_implies, forall_const, if_true, if_false, Int.reduceToNat, Nat.reduceSub, Int.reduceLE, bV, Nat.reduceAdd, Nat.reduceLT, Nat.reduceLeDiff, Nat.reduceLeDiff, q0, q2, q6, q8, q9, q10, q16, hL, kk, oq1, oa1, ob1, oc1, l1', l2', h1', Int.reduceLT, Int.reduceToNat, Nat.reduceMul, endK, rsC, rsV, resV]
        rw [hg]
        exact ⟨he, q, ra, rb, rc, rfl, hm⟩
      · rw [if_neg h1] at hg
        have h1' : ¬ (p : Int) = (l.length : Int) := by omega
        simp -implicitDefEqProofs only [bU, reduceIte, Nat.reduceEqDiff, reduceCtorEq, implies_true, forall_const, eq_self, Nat.reduceAdd, Nat.reduceLT, bne_self_eq_false, bT, eq_self, true_implies, false_implies, forall_const, if_true, if_false, Int.reduceToNat, Nat.reduceSub, Int.reduceLE, bV, Nat.reduceAdd, Nat.reduceLT, Nat.reduceLeDiff, Nat.reduceLeDiff, q0, q2, q6, q8, q9, q10, q16, hL, kk, l1', l2', h1', Int.reduceLT, Int.reduceToNat, Nat.reduceMul, endK, rsC, rsV, resV]
        rw [hg]
        exact ⟨he, rfl⟩
end
end Go.Vm
/- Messages read: the program's reader of names; bytes taken one behind the other; data with pointers as the program cuts it. -/
namespace Go.Vm
set_option linter.unusedVariables false
set_option linter.unusedSimpArgs false
def NamPost (r : Except Int (List UInt8 × Nat)) (id : Nat) (a : AV) (l : List UInt8) (p : Nat) (H : AH) (v : AV) (H' : AH) : Prop := Kp [id] H H' ∧ match r with
  | .error c => v = .s [] ∧ Dec H' id a l p c
  | .ok (s, q) => v = .s s ∧ Dec H' id a l q 0
def T_decName (C : Tab) (f : Nat) : Prop := ∀ (id : Nat) (a : AV) (l : List UInt8) (p : Nat) (H : AH), Dec H id a l p 0 → ∃ v H', C f [.pv id 0] H = some (v, H') ∧ NamPost (dn l p p none []) id a l p H v H'
theorem takeR_len (l : List UInt8) (p n : Nat) (c : Int) : (takeR l p n c).1.length = n := by
  unfold takeR
  split
  · split
    · rw [List.length_take, List.length_drop]; omega
    · simp
  · simp
theorem takeR_bad {l : List UInt8} {p n : Nat} {c : Int} (h : c ≠ 0) : (takeR l p n c).2 = (p, c) := by
  unfold takeR; rw [if_neg h]
theorem takeR_ok {l : List UInt8} {p n : Nat} (h : p + n ≤ l.length) : takeR l p n 0 = ((l.drop p).take n, p + n, 0) := by
  unfold takeR; rw [if_pos rfl, if_pos h]
theorem takeR_far {l : List UInt8} {p n : Nat} (h : l.length < p + n) : (takeR l p n 0).2 = (p, 8) := by
  unfold takeR; rw [if_pos rfl, if_neg (by omega)]
section
variable {C : Tab}
theorem r_decName {id : Nat} {a : AV} {l : List UInt8} {p : Nat} {H : AH} (hD : T_DecodeName C n_impl_DecodeName) (h : Dec H id a l p 0) :
    Runs C c_impl_decoder_name [.pv id 0] H (NamPost (dn l p p none []) id a l p H) := by
  unfold Runs c_impl_decoder_name
  obtain ⟨⟨d1, d2, d3⟩, d4, d5, d6⟩ := h.lds
  obtain ⟨v, H1, k1, rfl, e1⟩ := hD a l p H h.b h.cl h.hl h.hp
  have oa := h.b.out
  cases hd : dn l p p none [] with
  | error c =>
    rw [hd] at k1
    have hc0 := dn_e hd
    simp only [dnV] at k1
    obtain ⟨s1, H2, s2, s3, s4⟩ := (h.ext e1).st.2 c
    simp -implicitDefEqProofs only [bU, reduceIte, Nat.reduceEqDiff, reduceCtorEq, implies_true, forall_const, eq_self, Nat.reduceAdd, Nat.reduceLT, bne_self_eq_false, bT, eq_self, true_implies, false_implies, forall_const, if_true, if_false, Int.reduceToNat, Nat.reduceSub, Int.reduceLE, bV, Nat.reduceAdd, Nat.reduceLT, Nat.reduceLeDiff, Nat.reduceLeDiff, pv_faC, pv_faV, d1, d2, d3, d4, d5, d6, oa, k1, s1, s2, hc0, endK, rsC, rsV, resV]
    exact ⟨(Kp.ext e1).trans s4, rfl, s3⟩
  | ok r =>
    obtain ⟨s, q⟩ := r
    rw [hd] at k1
    obtain ⟨-, -, hq⟩ := dn_name hd
    simp only [dnV] at k1
    obtain ⟨s1, H2, s2, s3, s4⟩ := (h.ext e1).st.2 0
    obtain ⟨t1, H3, t2, t3, t4⟩ := s3.st.1 q hq
    simp -implicitDefEqProofs only [bU, reduceIte, Nat.reduceEqDiff, reduceCtorEq, implies_true, forall_const, eq_self, Nat.reduceAdd, Nat.reduceLT, bne_self_eq_false, bT, eq_self, true_implies, false_implies, forall_const, if_true, if_false, Int.reduceToNat, Nat.reduceSub, Int.reduceLE, bV, Nat.reduceAdd, Nat.reduceLT, Nat.reduceLeDiff, Nat.reduceLeDiff, pv_faC, pv_faV, d1, d2, d3, d4, d5, d6, oa, k1, s1, s2, t1, t2, endK, rsC, rsV, resV]
    exact ⟨(Kp.ext e1).trans (s4.trans t4), rfl, t3⟩
end
end Go.Vm
/- Data with pointers, as the program cuts it: names, then a rest whose form is checked. No program in sight. -/
namespace Go.Vm
set_option linter.unusedVariables false
set_option linter.unusedSimpArgs false
theorem nmGo_name : ∀ (n : Nat) (s r : List UInt8) (i : Nat), s.length ≤ n → (labGo s).isSome = true → i + s.length ≤ 255 → nmGo (s ++ r) i = i + s.length
  | n, [], r, i, _, h, _ => by rw [labGo] at h; cases h
  | 0, _ :: _, _, _, h, _, _ => by simp at h
  | n + 1, c :: s, r, i, hn, h, hl => by
    rw [labGo] at h
    simp only [List.length_cons] at hn hl ⊢
    rw [List.cons_append, nmGo]
    by_cases h0 : c.toNat = 0
    · rw [if_pos h0] at h ⊢
      by_cases hs : s = []
      · subst hs
        rw [if_neg (by omega)]; rfl
      · rw [if_neg hs] at h; cases h
    · rw [if_neg h0] at h ⊢
      by_cases h1 : 63 < c.toNat ∨ s.length < c.toNat
      · rw [dif_pos h1] at h; cases h
      · rw [dif_neg h1] at h
        rw [if_neg (by omega), List.drop_append_of_le_length (by omega)]
        rw [nmGo_name n (s.drop c.toNat) r _ (by rw [List.length_drop]; omega) (by cases hq : labGo (s.drop c.toNat) with
          | none => rw [hq] at h; cases h
          | some q => rfl) (by rw [List.length_drop]; omega), List.length_drop]
        omega
theorem labGo_pos {s : List UInt8} (h : (labGo s).isSome = true) : 0 < s.length := by
  cases s with
  | nil => rw [labGo] at h; cases h
  | cons c r => simp
theorem part_name {s r : List UInt8} (h : (labGo s).isSome = true) (hl : s.length ≤ 255) : part 110 (s ++ r) = some s := by
  have e : nmAt (s ++ r) = s.length := by
    unfold nmAt
    rw [nmGo_name _ s r 0 (Nat.le_refl _) h (by omega), Nat.zero_add]
  have hp := labGo_pos h
  unfold part
  rw [if_pos rfl, e, if_neg (by omega), List.take_left]
theorem prs_name {fs s r : List UInt8} (h : (labGo s).isSome = true) (hl : s.length ≤ 255) : (prs (110 :: fs) (s ++ r)).isSome = (prs fs r).isSome := by
  rw [prs, part_name h hl]
  simp only [List.drop_left, Option.isSome_map]
theorem prs_98 : ∀ (k : Nat) (d : List UInt8), (prs (List.replicate k 98) d).isSome = decide (d.length = k)
  | 0, d => by
    rw [List.replicate_zero, prs]
    cases d <;> simp
  | k + 1, [] => by
    rw [List.replicate_succ, prs]
    simp [part]
  | k + 1, c :: d => by
    rw [List.replicate_succ, prs]
    have e : part 98 (c :: d) = some [c] := by simp [part]
    rw [e]
    simp only [Option.isSome_map, List.length_singleton, List.drop_succ_cons, List.drop_zero, List.length_cons, List.length_nil]
    rw [prs_98 k d]
    exact decide_eq_decide.2 (by omega)
theorem prs_byte {fs d : List UInt8} {c : UInt8} : (prs (98 :: fs) (c :: d)).isSome = (prs fs d).isSome := by
  have e : part 98 (c :: d) = some [c] := by simp [part]
  rw [prs, e]
  simp only [Option.isSome_map, List.length_singleton, List.drop_succ_cons, List.drop_zero]
/-- Names one behind the other. -/
def ptI (l : List UInt8) (e : Nat) : Nat → Nat → List UInt8 → Except Int (List UInt8 × Nat)
  | 0, p, out => .ok (out, p)
  | k + 1, p, out => match dn l p p none [] with
    | .error c => .error c
    | .ok (s, q) => if e < q then .error 7 else ptI l e k q (out ++ s)
theorem ptGo_names {l : List UInt8} {e : Nat} {fs : List UInt8} : ∀ {k p : Nat} {out : List UInt8}, ptGo l e (List.replicate k 110 ++ fs) p out = match ptI l e k p out with
    | .error c => .error c
    | .ok (o, q) => ptGo l e fs q o
  | 0, p, out => rfl
  | k + 1, p, out => by
    rw [List.replicate_succ, List.cons_append, ptGo, if_neg (by decide), ptI]
    cases dn l p p none [] with
    | error c => rfl
    | ok r =>
      simp only
      by_cases h : e < r.2
      · rw [if_pos h, if_pos h]
      · rw [if_neg h, if_neg h, ptGo_names]
theorem ptGo_98 {l : List UInt8} {e : Nat} (he : e ≤ l.length) : ∀ {k p : Nat} {out : List UInt8}, p ≤ e → ptGo l e (List.replicate k 98) p out = if e - p = k then .ok (out ++ (l.drop p).take (e - p)) else .error 7
  | 0, p, out, hp => by
    rw [List.replicate_zero, ptGo]
    by_cases h : p = e
    · rw [if_pos h, if_pos (by omega), show e - p = 0 by omega, List.take_zero, List.append_nil]
    · rw [if_neg h, if_neg (by omega)]
  | k + 1, p, out, hp => by
    rw [List.replicate_succ, ptGo, if_pos rfl]
    by_cases h : e ≤ p
    · rw [if_pos h, if_neg (by omega)]
    · rw [if_neg h, ptGo_98 he (by omega)]
      by_cases h2 : e - p = k + 1
      · rw [if_pos h2, if_pos (by omega)]
        have e1 : l.getD p 0 = l[p]'(by omega) := by simp [List.getD, List.getElem?_eq_getElem (show p < l.length by omega)]
        rw [List.append_assoc, List.drop_eq_getElem_cons (show p < l.length by omega), show e - p = (e - (p + 1)) + 1 by omega, List.take_succ_cons, e1]
        rfl
      · rw [if_neg h2, if_neg (by omega)]
/-- How many names, how many bytes ahead of them, how many behind. -/
def ptK (t : Int) : Nat := if t = 6 then 2 else 1
def ptL (t : Int) : Nat := if t = 15 then 2 else 0
def ptB (t : Int) : Nat := if t = 6 then 20 else 0
theorem pt_form {t : Int} (h : hasP t = true) : specForm t = List.replicate (ptL t) 98 ++ (List.replicate (ptK t) 110 ++ List.replicate (ptB t) 98) := by
  unfold hasP at h
  have h := of_decide_eq_true h
  rcases h with h | h | h | h | h <;> (subst h; decide)
theorem ptGo_lead {l : List UInt8} {e : Nat} (he : e ≤ l.length) {fs : List UInt8} : ∀ {k p : Nat} {out : List UInt8}, ptGo l e (List.replicate k 98 ++ fs) p out = if e - p < k then .error 7 else ptGo l e fs (p + k) (out ++ (l.drop p).take k)
  | 0, p, out => by
    rw [if_neg (by omega), List.take_zero, List.append_nil]; rfl
  | k + 1, p, out => by
    rw [List.replicate_succ, List.cons_append, ptGo, if_pos rfl]
    by_cases h : e ≤ p
    · rw [if_pos h, if_pos (by omega)]
    · rw [if_neg h, ptGo_lead he]
      by_cases h2 : e - p < k + 1
      · rw [if_pos h2, if_pos (by omega)]
      · rw [if_neg h2, if_neg (by omega)]
        have e1 : l.getD p 0 = l[p]'(by omega) := by simp [List.getD, List.getElem?_eq_getElem (show p < l.length by omega)]
        rw [List.append_assoc, List.drop_eq_getElem_cons (show p < l.length by omega), List.take_succ_cons, e1, show p + 1 + k = p + (k + 1) by omega]
        rfl
theorem prs_lead {fs : List UInt8} : ∀ {k : Nat} {x r : List UInt8}, x.length = k → (prs (List.replicate k 98 ++ fs) (x ++ r)).isSome = (prs fs r).isSome
  | 0, x, r, h => by
    have : x = [] := List.eq_nil_of_length_eq_zero h
    subst this; rfl
  | k + 1, [], r, h => by simp at h
  | k + 1, c :: x, r, h => by
    rw [List.replicate_succ, List.cons_append, List.cons_append, prs_byte]
    exact prs_lead (by simpa using h)
theorem ptI_ok {l : List UInt8} {e : Nat} : ∀ {k p : Nat} {out o : List UInt8} {q : Nat}, ptI l e k p out = .ok (o, q) → p ≤ e → q ≤ e ∧ ∃ ss, o = out ++ ss ∧ ss.length ≤ 255 * k ∧ ∀ fs r, (prs (List.replicate k 110 ++ fs) (ss ++ r)).isSome = (prs fs r).isSome
  | 0, p, out, o, q, h, hp => by
    rw [ptI] at h
    injection h with h
    injection h with h h'
    subst h h'
    exact ⟨hp, [], by simp, by simp, fun fs r => rfl⟩
  | k + 1, p, out, o, q, h, hp => by
    rw [ptI] at h
    cases hd : dn l p p none [] with
    | error c => rw [hd] at h; cases h
    | ok r =>
      obtain ⟨s, q1⟩ := r
      rw [hd] at h
      simp only at h
      by_cases h2 : e < q1
      · rw [if_pos h2] at h; cases h
      · rw [if_neg h2] at h
        obtain ⟨d1, d2, d3⟩ := dn_name hd
        obtain ⟨g1, ss, g2, g3, g4⟩ := ptI_ok h (by omega)
        refine ⟨g1, s ++ ss, by rw [g2, List.append_assoc], by rw [List.length_append]; omega, fun fs r => ?_⟩
        rw [List.replicate_succ, List.cons_append, List.append_assoc, prs_name d1 d2]
        exact g4 fs r
theorem pt_sm {t : Int} (h : hasP t = true) : 0 ≤ t ∧ t ≤ 65535 ∧ ptK t ≤ 2 ∧ ptL t ≤ 2 ∧ ptB t ≤ 20 := by
  have h := of_decide_eq_true h
  unfold ptK ptL ptB
  refine ⟨by omega, by omega, ?_, ?_, ?_⟩ <;> split <;> omega
theorem ptGo_impl {l : List UInt8} {e p : Nat} {t : Int} (hT : hasP t = true) (hp : p ≤ e) (he : e ≤ l.length) :
    ptGo l e (specForm t) p [] = if e - p < ptL t then .error 7 else match ptI l e (ptK t) (p + ptL t) ((l.drop p).take (ptL t)) with
      | .error c => .error c
      | .ok (o, q) => if chk t (o ++ (l.drop q).take (e - q)) = 0 then .ok (o ++ (l.drop q).take (e - q)) else .error 7 := by
  obtain ⟨s1, s2, s3, s4, s5⟩ := pt_sm hT
  rw [pt_form hT, ptGo_lead he, List.nil_append]
  by_cases h1 : e - p < ptL t
  · rw [if_pos h1, if_pos h1]
  rw [if_neg h1, if_neg h1, ptGo_names]
  cases hi : ptI l e (ptK t) (p + ptL t) ((l.drop p).take (ptL t)) with
  | error c => rfl
  | ok r =>
    obtain ⟨o, q⟩ := r
    simp only
    obtain ⟨g1, ss, g2, g3, g4⟩ := ptI_ok hi (by omega)
    rw [ptGo_98 he g1]
    have hll : ((l.drop p).take (ptL t)).length = ptL t := by rw [List.length_take, List.length_drop]; omega
    have hrl : ((l.drop q).take (e - q)).length = e - q := by rw [List.length_take, List.length_drop]; omega
    have hprs : (prs (specForm t) (o ++ (l.drop q).take (e - q))).isSome = decide (e - q = ptB t) := by
      rw [pt_form hT, g2, List.append_assoc, prs_lead hll, g4, prs_98, hrl]
    have hol : (o ++ (l.drop q).take (e - q)).length ≤ 512 + (e - q) := by
      rw [List.length_append, hrl, g2, List.length_append, hll]
      have : 255 * ptK t ≤ 510 := by omega
      omega
    unfold chk
    rw [if_neg (c := t < 0 ∨ 65535 < t) (by omega)]
    by_cases h2 : e - q = ptB t
    · rw [if_pos h2]
      rw [decide_eq_true h2] at hprs
      rw [if_neg (c := 65535 < _ ∨ _) (fun hh => by
        rcases hh with hh | hh
        · omega
        · rw [Option.isNone_iff_eq_none] at hh
          rw [hh] at hprs; cases hprs), if_pos rfl]
    · rw [if_neg h2]
      rw [decide_eq_false h2] at hprs
      rw [if_pos (c := 65535 < _ ∨ _) (.inr (by rw [Option.isNone_iff_eq_none]; exact Option.isSome_eq_false_iff.1 hprs |> Option.isNone_iff_eq_none.1)), if_neg (by decide)]
def ptE (l : List UInt8) (t : Int) (e : Nat) : Except Int (List UInt8 × Nat) → Except Int (List UInt8)
  | .error c => .error c
  | .ok (o, q) => if chk t (o ++ (l.drop q).take (e - q)) = 0 then .ok (o ++ (l.drop q).take (e - q)) else .error 7
theorem ptGo_impl2 {l : List UInt8} {e p : Nat} {t : Int} (hT : hasP t = true) (hp : p ≤ e) (he : e ≤ l.length) :
    ptGo l e (specForm t) p [] = ptE l t e (if e - p < ptL t then .error 7 else ptI l e (ptK t) (p + ptL t) ((l.drop p).take (ptL t))) := by
  rw [ptGo_impl hT hp he]
  by_cases h : e - p < ptL t
  · rw [if_pos h, if_pos h]; rfl
  · rw [if_neg h, if_neg h]
    cases ptI l e (ptK t) (p + ptL t) ((l.drop p).take (ptL t)) <;> rfl
end Go.Vm
