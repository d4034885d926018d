import Derived.Test.YtfamnghjibckbaaDoorTt3
import Derived.Test.YtfamnghjibckbaaDoorTt9
import Derived.Test.YtfamnghjibckbaaDoorProg
import Derived.KernelRfl
import Derived.Test.YtfamnghjibckbaaDoorTt6
import Derived.Shelf.Strings.Repeat
import Derived.Test.YtfamnghjibckbaaDoorTt5
import Derived.Test.YtfamnghjibckbaaDoorTt4
import Derived.Test.YtfamnghjibckbaaDoorRows
import Derived.ProofKit
import Derived.JoinedCond
import Derived.Test.YtfamnghjibckbaaDoorCards
import Derived.Test.YtfamnghjibckbaaDoorTie
/- Signatures looked at: where the last record begins (the program's). -/
namespace Go.Vm
set_option linter.unusedVariables false
set_option linter.unusedSimpArgs false
/-- Positions alone: questions, then records. -/
def posQ (l : List UInt8) : Nat → Nat → Option Nat
  | 0, p => some p
  | k + 1, p => match dn l p p none [] with
    | .error _ => none
    | .ok (_, q) => if l.length < q + 4 then none else posQ l k (q + 4)
def posR (l : List UInt8) : Nat → Nat → Option Nat
  | 0, p => some p
  | k + 1, p => match recR l p with
    | .error _ => none
    | .ok (_, q) => posR l k q
theorem posR_app {l : List UInt8} : ∀ {j k p q : Nat}, posR l j p = some q → posR l (j + k) p = posR l k q
  | 0, k, p, q, h => by
    rw [posR] at h
    injection h with h
    rw [h, Nat.zero_add]
  | j + 1, k, p, q, h => by
    rw [show j + 1 + k = (j + k) + 1 by omega, posR]
    rw [posR] at h
    cases hr : recR l p with
    | error c => rw [hr] at h; cases h
    | ok x =>
      rw [hr] at h
      simp only at h ⊢
      exact posR_app h
theorem rsR_pos {l : List UInt8} : ∀ {k p la : Nat} {acc xs : List Rr} {q lb : Nat}, rsR l k p la acc = .ok (xs, q, lb) → posR l k p = some q
  | 0, p, la, acc, xs, q, lb, h => by
    rw [rsR] at h
    injection h with h
    injection h with h h'
    injection h' with h' h''
    rw [posR, h']
  | k + 1, p, la, acc, xs, q, lb, h => by
    rw [rsR] at h
    rw [posR]
    cases hr : recR l p with
    | error c => rw [hr] at h; cases h
    | ok x =>
      rw [hr] at h
      exact rsR_pos h
theorem qsR_pos {l : List UInt8} : ∀ {k p : Nat} {acc xs : List Qn} {q : Nat}, qsR l k p acc = .ok (xs, q) → posQ l k p = some q
  | 0, p, acc, xs, q, h => by
    rw [qsR] at h
    injection h with h
    injection h with h h'
    rw [posQ, h']
  | k + 1, p, acc, xs, q, h => by
    rw [qsR] at h
    rw [posQ]
    cases hr : dn l p p none [] with
    | error c => rw [hr] at h; cases h
    | ok x =>
      rw [hr] at h
      simp only at h ⊢
      split at h
      · cases h
      · rename_i hh
        rw [if_neg hh]
        exact qsR_pos h
theorem msgR_pos {l : List UInt8} {m : Msg} {la : Nat} (h : msgR l = .ok (m, la)) : l.length ≤ 65535 ∧ 12 ≤ l.length ∧ b2 l 4 + b2 l 6 + b2 l 8 + b2 l 10 ≤ 400 ∧ ∃ q, posQ l (b2 l 4) 12 = some q ∧ (posR l (b2 l 6 + b2 l 8 + b2 l 10) q).isSome = true := by
  unfold msgR at h
  split at h
  · cases h
  split at h
  · cases h
  split at h
  · cases h
  refine ⟨by omega, by omega, by omega, ?_⟩
  unfold msgQ at h
  split at h
  · cases h
  rename_i qs p1 h1
  have g1 := qsR_pos h1
  refine ⟨p1, g1, ?_⟩
  unfold msgA at h
  split at h
  · cases h
  rename_i an p2 la2 h2
  unfold msgB at h
  split at h
  · cases h
  rename_i au p3 la3 h3
  unfold msgC at h
  split at h
  · cases h
  rename_i ex p4 la4 h4
  have g2 := rsR_pos h2
  have g3 := rsR_pos h3
  have g4 := rsR_pos h4
  rw [Nat.add_assoc, posR_app g2, posR_app g3, g4]
  rfl
def T_lastRec (C : Tab) (f : Nat) : Prop := ∀ (a : AV) (l : List UInt8) (m : Msg) (la : Nat) (H : AH), Byt H a l → Cl H a → msgR l = .ok (m, la) → FormsOK H → ∃ v H', C f [a] H = some (v, H') ∧ (∃ at' : Nat, v = .i .i64 at' ∧ 12 ≤ at' ∧ at' ≤ l.length) ∧ Ext H H'
section
variable {C : Tab}
set_option maxRecDepth 100000 in
set_option maxHeartbeats 1000000 in
theorem r_lastRec {a : AV} {l : List UInt8} {m : Msg} {la : Nat} {H : AH} (hH : T_Head C n_impl_DecodeHead) (hN : T_decName C n_impl_decoder_name) (hT : T_take C n_impl_decoder_take) (hR : T_decRec C n_impl_decoder_record)
    (h : Byt H a l) (hc : Cl H a) (hm : msgR l = .ok (m, la)) (hF : FormsOK H) : Runs C c_impl_lastRecord [a] H fun v H' => (∃ at' : Nat, v = .i .i64 at' ∧ 12 ≤ at' ∧ at' ≤ l.length) ∧ Ext H H' := by
  unfold Runs c_impl_lastRecord
  obtain ⟨hl, h12, h400, q, hq, hr⟩ := msgR_pos hm
  obtain ⟨l1, l2⟩ := h.len
  have oa := h.out
  have oc := h.one
  obtain ⟨v1, H1, k1, rfl, rfl⟩ := hH a l H h hc
  unfold headV at k1
  rw [if_neg (by omega), cntV, b2_take (by omega), b2_take (by omega), b2_take (by omega), b2_take (by omega)] at k1
  simp only [eH, Enc.v] at k1
  generalize hdOf (l.take 12) = hh at *
  have hlt := Sl.lt h
  have hd : Dec (H1.new (.arr true 0 3 [.ag [a, .i .i64 12, .i .i64 0]])) H1.n a l 12 0 :=
    ⟨Obj1.new (cs := [a, .i .i64 12, .i .i64 0]), Sl.ext h (.new _ _), hc.fr fun i hi => (Ext.new _ _).at' i (hlt i hi), fun e => by have := hlt _ e; omega, hl, h12⟩
  have he : Ext H1 (H1.new (.arr true 0 3 [.ag [a, .i .i64 12, .i .i64 0]])) := .new _ _
  generalize hH2 : H1.new (.arr true 0 3 [.ag [a, .i .i64 12, .i .i64 0]]) = H2 at hd he
  simp -implicitDefEqProofs only [bU, reduceIte, Nat.reduceEqDiff, reduceCtorEq, implies_true, forall_const, eq_self, Nat.reduceAdd, Nat.reduceLT, bne_self_eq_false, bT, eq_self, true_implies, false_implies, forall_const, if_true, if_false, Int.reduceToNat, Nat.reduceSub, Int.reduceLE, bV, Nat.reduceAdd, Nat.reduceLT, Nat.reduceLeDiff, Nat.reduceLeDiff, pv_faC, pv_faV, l1, l2, oa, oc, k1, hH2, Int.reduceEq, Int.reduceLT, Int.reduceToNat, Nat.reduceMul, show ((4 : Nat) : Int) = 4 from rfl]
  refine exec_loop (fun n e M => ∃ (j p : Nat) (H' : AH) (L : List Lv) (g : Nat), j ≤ b2 l 4 ∧ n = b2 l 4 - j ∧ 12 ≤ p ∧ look e 4 = .la 4 1 0 0 ∧ look e 6 = .pv H1.n 0 ∧ look e 7 = .i .i64 j ∧
    M = ⟨L, g, H'⟩ ∧ keepL [4, 6, 7] L = [⟨4, 1, 0, [.ag (cntL l)]⟩] ∧ Ext H1 H' ∧ Dec H' H1.n a l p 0 ∧ posQ l (b2 l 4 - j) p = some q) ?_ (n := b2 l 4)
    ⟨0, 12, H2, _, _, by omega, by omega, by omega, rfl, rfl, rfl, rfl, rfl, he, hd, hq⟩
  clear hd he hH2 hq
  rintro n e M ⟨j, p, H', L, g, hj, rfl, hp12, q4, q6, q7, rfl, hL, he, hd, hg⟩
  simp only [cntL] at hL
  by_cases h1 : (j : Int) < (b2 l 4 : Nat)
  · have w4 : IntKind.i64.wrap ((j : Int) + 1) = ((j + 1 : Nat) : Int) := by rw [w64 (by omega) (by omega)]; rfl
    rw [show b2 l 4 - j = (b2 l 4 - (j + 1)) + 1 by omega, posQ] at hg
    obtain ⟨v2, H3, k2, f2, hpost⟩ := hN H1.n a l p H' hd
    cases hdn : dn l p p none [] with
    | error c => rw [hdn] at hg; cases hg
    | ok r =>
      obtain ⟨s, k⟩ := r
      rw [hdn] at hg hpost
      obtain ⟨rfl, d7⟩ := hpost
      simp only at hg
      have hk : p ≤ k := (dn_far hdn)
      split at hg
      · cases hg
      rename_i h2
      obtain ⟨v3, H4, k3, rfl, d8, f3⟩ := hT H1.n a l k 4 0 H3 d7 (by omega)
      rw [takeR_ok (by omega)] at k3 d8
      simp only [show ((4 : Nat) : Int) = 4 from rfl] at k3
      simp -implicitDefEqProofs only [bU, reduceIte, Nat.reduceEqDiff, reduceCtorEq, implies_true, forall_const, eq_self, Nat.reduceAdd, Nat.reduceLT, bne_self_eq_false, bT, eq_self, true_implies, false_implies, forall_const, if_true, if_false, Int.reduceToNat, Nat.reduceSub, Int.reduceLE, bV, Nat.reduceAdd, Nat.reduceLT, Nat.reduceLeDiff, Nat.reduceLeDiff, pv_faC, pv_faV, q4, q6, q7, hL, h1, k2, k3, w4, Int.reduceLT, Int.reduceToNat, Nat.reduceMul, show ((4 : Nat) : Int) = 4 from rfl]
      exact ⟨b2 l 4 - (j + 1), by omega, j + 1, k + 4, H4, _, _, by omega, rfl, by omega, rfl, rfl, rfl, Kp.put (Kp.put he f2 (by simp)) f3 (by simp), d8, hg⟩
  · have hj1 : b2 l 4 - j = 0 := by omega
    rw [hj1, posQ] at hg
    injection hg with hg
    subst hg
    obtain ⟨⟨d1, d2, d3⟩, d4, d5, d6⟩ := hd.lds
    have t6 := b2_lt (l := l) (k := 6) (by omega)
    simp -implicitDefEqProofs only [bU, reduceIte, Nat.reduceEqDiff, reduceCtorEq, implies_true, forall_const, eq_self, Nat.reduceAdd, Nat.reduceLT, bne_self_eq_false, bT, eq_self, true_implies, false_implies, forall_const, if_true, if_false, Int.reduceToNat, Nat.reduceSub, Int.reduceLE, bV, Nat.reduceAdd, Nat.reduceLT, Nat.reduceLeDiff, Nat.reduceLeDiff, pv_faC, pv_faV, q4, q6, q7, hL, h1, d1, d2, d3, d4, d5, d6, Int.reduceLT, Int.reduceToNat, Nat.reduceMul, show ((4 : Nat) : Int) = 4 from rfl]
    have w1 : IntKind.i64.wrap ((b2 l 6 : Nat) + (b2 l 8 : Nat)) = ((b2 l 6 + b2 l 8 : Nat) : Int) := by rw [w64 (by omega) (by omega)]; omega
    have w2 : IntKind.i64.wrap ((b2 l 6 + b2 l 8 : Nat) + (b2 l 10 : Nat)) = ((b2 l 6 + b2 l 8 + b2 l 10 : Nat) : Int) := by rw [w64 (by omega) (by omega)]; omega
    refine exec_loop (fun n e M => ∃ (j p fr : Nat) (H' : AH) (L : List Lv) (g : Nat), j ≤ b2 l 6 + b2 l 8 + b2 l 10 ∧ n = b2 l 6 + b2 l 8 + b2 l 10 - j ∧ 12 ≤ fr ∧ fr ≤ l.length ∧ 12 ≤ p ∧ look e 4 = .la 4 1 0 0 ∧ look e 6 = .pv H1.n 0 ∧ look e 8 = .i .i64 fr ∧ look e 9 = .i .i64 j ∧
      M = ⟨L, g, H'⟩ ∧ keepL [4, 6, 8, 9] L = [⟨4, 1, 0, [.ag (cntL l)]⟩] ∧ Ext H1 H' ∧ Dec H' H1.n a l p 0 ∧ (posR l (b2 l 6 + b2 l 8 + b2 l 10 - j) p).isSome = true) ?_ (n := b2 l 6 + b2 l 8 + b2 l 10)
      ⟨0, p, p, H', _, _, by omega, by omega, hp12, hd.hp, hp12, rfl, rfl, rfl, rfl, rfl, rfl, he, hd, hr⟩
    clear hd he hr hp12 q4 q6 q7 hL d1 d2 d3 d4 d5 d6 h1 hj1
    clear H' p
    rintro n e M ⟨j, p, fr, H', L, g, hj, rfl, hf1, hf2, hp12, q4, q6, q8, q9, rfl, hL, he, hd, hg⟩
    simp only [cntL] at hL
    obtain ⟨⟨d1, d2, d3⟩, d4, d5, d6⟩ := hd.lds
    by_cases h1 : (j : Int) < ((b2 l 6 + b2 l 8 + b2 l 10 : Nat) : Int)
    · have w4 : IntKind.i64.wrap ((j : Int) + 1) = ((j + 1 : Nat) : Int) := by rw [w64 (by omega) (by omega)]; rfl
      rw [show b2 l 6 + b2 l 8 + b2 l 10 - j = (b2 l 6 + b2 l 8 + b2 l 10 - (j + 1)) + 1 by omega, posR] at hg
      obtain ⟨v2, H3, k2, f2, hpost⟩ := hR H1.n a l p H' hd (hF.ext he)
      cases hdn : recR l p with
      | error c => rw [hdn] at hg; cases hg
      | ok r =>
        obtain ⟨s, k⟩ := r
        rw [hdn] at hg hpost
        obtain ⟨rfl, d7⟩ := hpost
        have hk : p ≤ k := recR_far hdn
        have hp := hd.hp
        simp -implicitDefEqProofs only [bU, reduceIte, Nat.reduceEqDiff, reduceCtorEq, implies_true, forall_const, eq_self, Nat.reduceAdd, Nat.reduceLT, bne_self_eq_false, bT, eq_self, true_implies, false_implies, forall_const, if_true, if_false, Int.reduceToNat, Nat.reduceSub, Int.reduceLE, bV, Nat.reduceAdd, Nat.reduceLT, Nat.reduceLeDiff, Nat.reduceLeDiff, pv_faC, pv_faV, q4, q6, q8, q9, hL, h1, k2, w1, w2, w4, d1, d2, d3, d4, d5, d6, Int.reduceLT, Int.reduceToNat, Nat.reduceMul, show ((4 : Nat) : Int) = 4 from rfl]
        exact ⟨b2 l 6 + b2 l 8 + b2 l 10 - (j + 1), by omega, j + 1, k, p, H3, _, _, by omega, rfl, hp12, hp, by omega, rfl, rfl, rfl, rfl, Kp.put he f2 (by simp), d7, hg⟩
    · simp -implicitDefEqProofs only [bU, reduceIte, Nat.reduceEqDiff, reduceCtorEq, implies_true, forall_const, eq_self, Nat.reduceAdd, Nat.reduceLT, bne_self_eq_false, bT, eq_self, true_implies, false_implies, forall_const, if_true, if_false, Int.reduceToNat, Nat.reduceSub, Int.reduceLE, bV, Nat.reduceAdd, Nat.reduceLT, Nat.reduceLeDiff, Nat.reduceLeDiff, pv_faC, pv_faV, q4, q6, q8, q9, hL, h1, w1, w2, Int.reduceLT, Int.reduceToNat, Nat.reduceMul, show ((4 : Nat) : Int) = 4 from rfl, endK, rsC, rsV, resV]
      exact ⟨⟨fr, rfl, hf1, hf2⟩, he⟩
end
end Go.Vm
/- Signatures looked at without keys: the program's rows of records joined; a part of bytes; where a signature may stand. -/
namespace Go.Vm
set_option linter.unusedVariables false
set_option linter.unusedSimpArgs false
theorem all_ap {q a b c : AV} {m : Msg} {H : AH} {n0 : Nat} (h : MsgM H n0 q a b c m) (h1 : m.an.length ≤ 400) (h2 : m.au.length ≤ 400) (h3 : m.ex.length ≤ 400) (L : List Lv) (g : Nat) :
    ∃ x1 H1 x2 H2 x3 H3, apC ⟨L, g, H.new (.arr true 0 5 [])⟩ 5 56 a (.sl H.n 0 0) ∧ apV ⟨L, g, H.new (.arr true 0 5 [])⟩ a (.sl H.n 0 0) = x1 ∧ apM ⟨L, g, H.new (.arr true 0 5 [])⟩ 5 a (.sl H.n 0 0) = ⟨L, g, H1⟩ ∧
      apC ⟨L, g, H1⟩ 5 56 b x1 ∧ apV ⟨L, g, H1⟩ b x1 = x2 ∧ apM ⟨L, g, H1⟩ 5 b x1 = ⟨L, g, H2⟩ ∧ apC ⟨L, g, H2⟩ 5 56 c x2 ∧ apV ⟨L, g, H2⟩ c x2 = x3 ∧ apM ⟨L, g, H2⟩ 5 c x2 = ⟨L, g, H3⟩ ∧ Sx H3 eR x3 (m.an ++ m.au ++ m.ex) ∧ Ext H H3 := by
  have e0 : Ext H (H.new (.arr true 0 5 [])) := .new _ _
  have m0 : Mn (H.new (.arr true 0 5 [])) 5 (.sl H.n 0 0) [] := Mn.own (xs := []) (by simp) new_at
  obtain ⟨p1, x1, H1, p2, p3, p4, p5, p6, p7, -⟩ := Mn.ap (by' := 56) m0 ((h.ext e0).ha.sl.src L g) (by rw [List.length_map, List.length_nil]; omega)
  have e1 : Ext H H1 := e0.put (l := idA (.sl H.n 0 0)) (fun i hi => by simp only [idA, List.mem_singleton] at hi; omega) p5 p6
  have g1 : ∀ i, i ∈ idA x1 → H.n ≤ i := fun i hi => (p7 i hi).elim (fun h => by simp only [idA, List.mem_singleton] at h; omega) fun h => Nat.le_trans e0.n h
  obtain ⟨q1, x2, H2, q2, q3, q4, q5, q6, q7, -⟩ := Mn.ap (by' := 56) p4 ((h.ext e1).hb.sl.src L g) (by rw [List.length_append, List.length_map, List.length_map, List.length_nil]; omega)
  have e2 : Ext H H2 := e1.put g1 q5 q6
  have g2 : ∀ i, i ∈ idA x2 → H.n ≤ i := fun i hi => (q7 i hi).elim (g1 i) fun h => Nat.le_trans e1.n h
  obtain ⟨r1, x3, H3, r2, r3, r4, r5, r6, r7, -⟩ := Mn.ap (by' := 56) q4 ((h.ext e2).hc.sl.src L g) (by rw [List.length_append, List.length_append, List.length_map, List.length_map, List.length_map, List.length_nil]; omega)
  refine ⟨x1, H1, x2, H2, x3, H3, p1, p2, p3, q1, q2, q3, r1, r2, r3, ?_, e2.put g2 r5 r6⟩
  have := r4.sl
  rw [List.nil_append, ← List.map_append, ← List.map_append] at this
  exact this
theorem byt_ap {a : AV} {l : List UInt8} {H : AH} (h : Byt H a l) (hl : l.length ≤ 65535) (L : List Lv) (g : Nat) :
    ∃ x H1, apC ⟨L, g, H.new (.arr true 0 1 [])⟩ 1 1 a (.sl H.n 0 0) ∧ apV ⟨L, g, H.new (.arr true 0 1 [])⟩ a (.sl H.n 0 0) = x ∧ apM ⟨L, g, H.new (.arr true 0 1 [])⟩ 1 a (.sl H.n 0 0) = ⟨L, g, H1⟩ ∧ x.outs = true ∧ x.cells = [x] ∧ Ext H H1 := by
  have e0 : Ext H (H.new (.arr true 0 1 [])) := .new _ _
  have m0 : Mn (H.new (.arr true 0 1 [])) 1 (.sl H.n 0 0) [] := Mn.own (xs := []) (by simp) new_at
  obtain ⟨p1, x1, H1, p2, p3, p4, p5, p6, p7, -⟩ := Mn.ap (by' := 1) m0 ((Sl.ext h e0).src L g) (by rw [enc_len, List.length_nil]; omega)
  exact ⟨x1, H1, p1, p2, p3, p4.sl.out, p4.sl.one, e0.put (l := idA (.sl H.n 0 0)) (fun i hi => by simp only [idA, List.mem_singleton] at hi; omega) p5 p6⟩
/-- A part of bytes. -/
theorem byt_sub {a : AV} {l : List UInt8} {H : AH} (h : Byt H a l) (hc : Cl H a) {lo hi : Nat} (h1 : lo ≤ hi) (h2 : hi ≤ l.length) :
    slC (lo : Int) (hi : Int) a ∧ slZ H 1 a ∧ Byt H (slV lo hi a) ((l.drop lo).take (hi - lo)) := by
  obtain ⟨t1, t2, t3⟩ := Sl.sub h hc (lo := lo) (hi := hi) (by omega) (by omega) (by rw [enc_len]; omega)
  rw [toNat_nat, toNat_nat, enc_drop, enc_take] at t3
  exact ⟨t1, t2, t3⟩
/-- How far a signature is an error among all records. -/
def limS (m : Msg) : Nat := if m.ex.length = 0 then (m.an ++ m.au ++ m.ex).length else (m.an ++ m.au ++ m.ex).length - 1
theorem stray_lim (m : Msg) : strayB m = ((m.an ++ m.au ++ m.ex).take (limS m)).any is250 := by
  unfold strayB limS
  by_cases h : m.ex.length = 0
  · rw [if_pos h, List.take_of_length_le (Nat.le_refl _), List.eq_nil_of_length_eq_zero h]
    simp
  · rw [if_neg h]
    have e : (m.an ++ m.au ++ m.ex).length - 1 = (m.an ++ m.au).length + (m.ex.length - 1) := by simp only [List.length_append]; omega
    rw [e, List.take_length_add_append, List.any_append, List.any_append, Bool.or_assoc]
end Go.Vm
/- Signatures looked at without keys: the program's run. -/
namespace Go.Vm
set_option linter.unusedVariables false
set_option linter.unusedSimpArgs false
section
variable {C : Tab}
set_option maxRecDepth 100000 in
set_option maxHeartbeats 8000000 in
theorem r_implVerify {a : AV} {l : List UInt8} {H : AH} (hR : T_Decode C n_impl_Decode) (hI : T_within C n_impl_within) (hL' : T_low C n_impl_fold) (hRp : ∀ H, C 114 [.s [0], .i .i64 4] H = some (.s [0, 0, 0, 0], H)) (hLR : T_lastRec C n_impl_lastRecord) (hU : T_u16 C n_impl_u16) (hP : T_p16 C n_impl_p16)
    (h : Byt H a l) (hc : Cl H a) (hl : l.length ≤ 1099511627776) (hF : FormsOK H) : Runs C c_impl_Verify [a, .ns, .i .i64 0, .s []] H (VfPost l H) := by
  unfold Runs c_impl_Verify
  have oa := h.out
  obtain ⟨l1, l2⟩ := h.len
  obtain ⟨v1, H1, k1, e1, hpost⟩ := hR a l H h hc hl hF
  have n1 : lenV .ns = .i .i64 0 := rfl
  have n2 : lenC .ns := trivial
  have hI0 : ∀ H, C n_impl_within [.i .i64 0, .i .i64 0, .i .i64 281474976710655] H = some (.b true, H) := fun H => hI 0 0 281474976710655 H
  cases hm : msgR l with
  | error c =>
    rw [hm] at hpost
    subst hpost
    have hc0 : c ≠ 0 := msgR_e hm
    have hv : vfB l = true := by unfold vfB; rw [hm]
    simp only [mV, hd0] at k1
    simp -implicitDefEqProofs only [bU, reduceIte, Nat.reduceEqDiff, reduceCtorEq, implies_true, forall_const, eq_self, Nat.reduceAdd, Nat.reduceLT, bne_self_eq_false, bT, eq_self, true_implies, false_implies, forall_const, if_true, if_false, Int.reduceToNat, Nat.reduceSub, Int.reduceLE, bV, Nat.reduceAdd, Nat.reduceLT, Nat.reduceLeDiff, Nat.reduceLeDiff, oa, k1, hc0, endK, rsC, rsV, resV]
    exact .mk' e1 rfl rfl hv rfl
  | ok x =>
    obtain ⟨m, la⟩ := x
    rw [hm] at hpost
    obtain ⟨q, a', b, c, rfl, hms⟩ := hpost
    obtain ⟨z1, z2, z3, z4, z5, z6, z7, z8, -, z10⟩ := msgR_bnd hm
    have o1 := hms.hq.sl.out
    have o2 := hms.ha.sl.out
    have o3 := hms.hb.sl.out
    have o4 := hms.hc.sl.out
    have hvf : vfB l = vfM m := by unfold vfB; rw [hm]
    simp only [mV] at k1
    simp -implicitDefEqProofs only [bU, reduceIte, Nat.reduceEqDiff, reduceCtorEq, implies_true, forall_const, eq_self, Nat.reduceAdd, Nat.reduceLT, bne_self_eq_false, bT, eq_self, true_implies, false_implies, forall_const, if_true, if_false, Int.reduceToNat, Nat.reduceSub, Int.reduceLE, bV, Nat.reduceAdd, Nat.reduceLT, Nat.reduceLeDiff, Nat.reduceLeDiff, oa, k1, o1, o2, o3, o4, hI0, n1, n2, Int.reduceLT, Int.reduceEq, List.length_nil, show ((0 : Nat) : Int) = 0 from rfl]
    refine exec_loop (fun n e M => ∃ (L : List Lv) (g : Nat), look e 0 = a ∧ look e 1 = .ns ∧ look e 2 = .i .i64 0 ∧ look e 3 = .s [] ∧ look e 8 = .la 8 0 0 0 ∧ look e 9 = .la 9 1 0 0 ∧ look e 10 = .la 10 2 0 0 ∧ look e 55 = .i .i64 0 ∧ look e 56 = .i .i64 0 ∧ M = ⟨L, g, H1⟩ ∧
      keepL [0, 1, 2, 3, 8, 9, 10, 54, 55, 56] L = lsVf m.h q a' b c) ?_ (n := 0) ⟨_, _, rfl, rfl, rfl, rfl, rfl, rfl, rfl, rfl, rfl, rfl, rfl⟩
    rintro n e M ⟨L, g, q0, q1, q2, q3, q8, q9, q10, q55, q56, rfl, hL⟩
    obtain ⟨x1, H2, x2, H3, x3, H4, p1, p2, p3, p4, p5, p6, p7, p8, p9, hall, e4⟩ := all_ap hms z5 z6 z7 (lsVf m.h q a' b c) g
    simp only [lsVf, mV] at hL p1 p2 p3 p4 p5 p6 p7 p8 p9
    obtain ⟨y1, y2⟩ := Sx.len hall
    simp -implicitDefEqProofs only [bU, reduceIte, Nat.reduceEqDiff, reduceCtorEq, implies_true, forall_const, eq_self, Nat.reduceAdd, Nat.reduceLT, bne_self_eq_false, bT, eq_self, true_implies, false_implies, forall_const, if_true, if_false, Int.reduceToNat, Nat.reduceSub, Int.reduceLE, bV, Nat.reduceAdd, Nat.reduceLT, Nat.reduceLeDiff, Nat.reduceLeDiff, lgAt, isRd, q0, q1, q2, q3, q8, q9, q10, q55, q56, hL, Int.reduceLT, Int.reduceEq, p1, p2, p3, p4, p5, p6, p7, p8, p9, fillEC, fillE, List.replicate, y1, y2]
    have hsl := stray_lim m
    have hlim : limS m = if m.ex.length = 0 then (m.an ++ m.au ++ m.ex).length else (m.an ++ m.au ++ m.ex).length - 1 := rfl
    have hxl : (m.an ++ m.au ++ m.ex).length ≤ 1200 := by simp only [List.length_append]; omega
    have hxe : m.ex.length ≤ (m.an ++ m.au ++ m.ex).length := by simp only [List.length_append]; omega
    obtain ⟨x5, x6⟩ := Sx.len hms.hc.sl
    generalize m.an ++ m.au ++ m.ex = xs at *
    generalize limS m = lim at *
    have hlim2 : lim ≤ xs.length ∧ xs.length ≤ lim + 1 := by rw [hlim]; split <;> omega
    obtain ⟨hlim3, hlim4⟩ := hlim2
    refine exec_loop (fun n e M => ∃ (i : Nat) (L : List Lv) (g : Nat), i ≤ xs.length ∧ n = xs.length - i ∧ look e 0 = a ∧ look e 1 = .ns ∧ look e 2 = .i .i64 0 ∧ look e 3 = .s [] ∧ look e 8 = .la 8 0 0 0 ∧ look e 9 = .la 9 1 0 0 ∧ look e 10 = .la 10 2 0 0 ∧ look e 14 = x3 ∧ look e 75 = x3 ∧ look e 76 = .i .i64 xs.length ∧ look e 77 = .i .i64 i ∧ M = ⟨L, g, H4⟩ ∧
      keepL [0, 1, 2, 3, 8, 9, 10, 14, 75, 76, 77] L = lsVf m.h q a' b c ∧ (xs.take (min i lim)).any is250 = false) ?_ (n := xs.length) ⟨0, _, _, by omega, by omega, rfl, rfl, rfl, rfl, rfl, rfl, rfl, rfl, rfl, rfl, rfl, rfl, rfl, by rw [Nat.zero_min]; rfl⟩
    clear q0 q1 q2 q3 q8 q9 q10 q55 q56 hL p1 p2 p3 p4 p5 p6 p7 p8 p9
    rintro n e M ⟨i, L, g, hi, rfl, q0, q1, q2, q3, q8, q9, q10, q14, q75, q76, q77, rfl, hL, hf⟩
    simp only [lsVf, mV] at hL
    have wl : IntKind.i64.wrap ((xs.length : Int) - 1) = (xs.length : Int) - 1 := w64 (by omega) (by omega)
    by_cases hlt : (i : Int) < xs.length
    · have hil : i < xs.length := by omega
      obtain ⟨b1, b2, b3, b4⟩ := Sx.at' hall hil
      simp only [show eR.z = 5 from rfl, show eR.v xs[i] = AV.ag [.s (xs[i]).o, .i .i64 (xs[i]).t, .i .i64 (xs[i]).c, .i .i64 (xs[i]).ttl, .s (xs[i]).d] from rfl] at b1 b3 b4
      have hs := any_snoc (p := is250) hil
      have w9 : IntKind.i64.wrap ((i : Int) + 1) = ((i + 1 : Nat) : Int) := by rw [w64 (by omega) (by omega)]; rfl
      have hit : i < lim → (xs[i]).t = 250 → vfB l = true := fun hi2 ht => by
        have e : (xs.take lim).any is250 = true := by
          have hi3 : i < (xs.take lim).length := by rw [List.length_take]; omega
          refine any_hit hi3 ?_
          rw [List.getElem_take, is250, decide_eq_true_eq]; exact ht
        rw [hvf, vfM, hsl, e]; rfl
      have nxt : ¬ (i < lim ∧ (xs[i]).t = 250) → (xs.take (min (i + 1) lim)).any is250 = false := fun hn => by
        by_cases hi2 : i < lim
        · rw [Nat.min_eq_left (by omega : i ≤ lim)] at hf
          rw [Nat.min_eq_left (by omega : i + 1 ≤ lim), hs, hf, is250, decide_eq_false fun ht => hn ⟨hi2, ht⟩]; rfl
        · rw [Nat.min_eq_right (by omega : lim ≤ i)] at hf
          rw [Nat.min_eq_right (by omega : lim ≤ i + 1)]; exact hf
      by_cases ht : (xs[i]).t = 250
      · by_cases h1 : (i : Int) < (xs.length : Int) - 1
        · have hv := hit (by omega) ht
          simp -implicitDefEqProofs only [bU, reduceIte, Nat.reduceEqDiff, reduceCtorEq, implies_true, forall_const, eq_self, Nat.reduceAdd, Nat.reduceLT, bne_self_eq_false, bT, eq_self, true_implies, false_implies, forall_const, if_true, if_false, Int.reduceToNat, Nat.reduceSub, Int.reduceLE, bV, Nat.reduceAdd, Nat.reduceLT, Nat.reduceLeDiff, Nat.reduceLeDiff, q0, q1, q2, q3, q8, q9, q10, q14, q75, q76, q77, hL, y1, y2, hlt, toNat_nat, b1, b2, b3, b4, ht, wl, h1, endK, rsC, rsV, resV]
          exact .mk' (e1.trans e4) rfl rfl hv rfl -- Y1
        · by_cases hx0 : m.ex.length = 0
          · have hx0' : ((m.ex.length : Int) = 0) = True := eq_true (by omega)
            rw [if_pos hx0] at hlim
            have hv := hit (by omega) ht
            simp -implicitDefEqProofs only [bU, reduceIte, Nat.reduceEqDiff, reduceCtorEq, implies_true, forall_const, eq_self, Nat.reduceAdd, Nat.reduceLT, bne_self_eq_false, bT, eq_self, true_implies, false_implies, forall_const, if_true, if_false, Int.reduceToNat, Nat.reduceSub, Int.reduceLE, bV, Nat.reduceAdd, Nat.reduceLT, Nat.reduceLeDiff, Nat.reduceLeDiff, q0, q1, q2, q3, q8, q9, q10, q14, q75, q76, q77, hL, y1, y2, hlt, toNat_nat, b1, b2, b3, b4, ht, wl, h1, x5, x6, hx0', endK, rsC, rsV, resV]
            exact .mk' (e1.trans e4) rfl rfl hv rfl -- Y2
          · have hx0' : ((m.ex.length : Int) = 0) = False := eq_false (by omega)
            rw [if_neg hx0] at hlim
            have hn := nxt (by omega)
            simp -implicitDefEqProofs only [bU, reduceIte, Nat.reduceEqDiff, reduceCtorEq, implies_true, forall_const, eq_self, Nat.reduceAdd, Nat.reduceLT, bne_self_eq_false, bT, eq_self, true_implies, false_implies, forall_const, if_true, if_false, Int.reduceToNat, Nat.reduceSub, Int.reduceLE, bV, Nat.reduceAdd, Nat.reduceLT, Nat.reduceLeDiff, Nat.reduceLeDiff, q0, q1, q2, q3, q8, q9, q10, q14, q75, q76, q77, hL, y1, y2, hlt, toNat_nat, b1, b2, b3, b4, ht, wl, h1, x5, x6, hx0', w9]
            exact ⟨xs.length - (i + 1), by omega, i + 1, _, _, by omega, rfl, rfl, rfl, rfl, hn⟩ -- Y3
      · have hn := nxt (fun h => ht h.2)
        simp -implicitDefEqProofs only [bU, reduceIte, Nat.reduceEqDiff, reduceCtorEq, implies_true, forall_const, eq_self, Nat.reduceAdd, Nat.reduceLT, bne_self_eq_false, bT, eq_self, true_implies, false_implies, forall_const, if_true, if_false, Int.reduceToNat, Nat.reduceSub, Int.reduceLE, bV, Nat.reduceAdd, Nat.reduceLT, Nat.reduceLeDiff, Nat.reduceLeDiff, q0, q1, q2, q3, q8, q9, q10, q14, q75, q76, q77, hL, y1, y2, hlt, toNat_nat, b1, b2, b3, b4, ht, wl, w9]
        exact ⟨xs.length - (i + 1), by omega, i + 1, _, _, by omega, rfl, rfl, rfl, rfl, hn⟩ -- Y4
    have hst : strayB m = false := by
      rw [hsl]
      rwa [Nat.min_eq_right (by omega)] at hf
    clear hf hsl
    have e14 := e1.trans e4
    have hb4 : Byt H4 a l := h.ext e14
    have hms4 := hms.ext e4
    obtain ⟨xb, H5, r1, r2, r3, r4, r5, r6⟩ := byt_ap hb4 z1 (lsVf m.h q a' b c) g
    simp only [lsVf, mV] at r1 r2 r3
    by_cases hx : m.ex.length = 0
    · have hx' : ((m.ex.length : Int) = 0) = True := eq_true (by omega)
      have hv : vfB l = false := by rw [hvf, vfM, hst, last_nil hx]; rfl
      simp -implicitDefEqProofs only [bU, reduceIte, Nat.reduceEqDiff, reduceCtorEq, implies_true, forall_const, eq_self, Nat.reduceAdd, Nat.reduceLT, bne_self_eq_false, bT, eq_self, true_implies, false_implies, forall_const, if_true, if_false, Int.reduceToNat, Nat.reduceSub, Int.reduceLE, bV, Nat.reduceAdd, Nat.reduceLT, Nat.reduceLeDiff, Nat.reduceLeDiff, q0, q1, q2, q3, q8, q9, q10, q14, q75, q76, q77, hL, hlt, x5, x6, hx', r1, r2, r3, r4, r5, fillEC, fillE, List.replicate, List.set, endK, rsC, rsV, resV]
      exact .mk' (e14.trans r6) r4 r5 hv rfl -- Z1
    have hx' : ((m.ex.length : Int) = 0) = False := eq_false (by omega)
    have hil : m.ex.length - 1 < m.ex.length := by omega
    have w1 : IntKind.i64.wrap ((m.ex.length : Int) - 1) = ((m.ex.length - 1 : Nat) : Int) := by rw [w64 (by omega) (by omega)]; omega
    obtain ⟨b1, b2', b3, b4, b5⟩ := Sx.fdn (z := 5) hms4.hc.sl rfl hil (off := 1) (by decide)
    have b5' := fun (L : List Lv) (g : Nat) => (b5 L g).trans (show _ = AV.i .i64 (m.ex[m.ex.length - 1]).t from rfl)
    obtain ⟨-, -, b6, b7⟩ := Sx.at' hms4.hc.sl hil
    simp only [show eR.z = 5 from rfl] at b6 b7
    have hlast := last_eq hil
    have hmem : m.ex[m.ex.length - 1] ∈ m.ex := List.getElem_mem hil
    generalize m.ex[m.ex.length - 1] = r at *
    by_cases ht : r.t = 250
    rotate_left
    · have hv : vfB l = false := by rw [hvf, vfM, hst, hlast, is250, decide_eq_false ht]; rfl
      simp -implicitDefEqProofs only [bU, reduceIte, Nat.reduceEqDiff, reduceCtorEq, implies_true, forall_const, eq_self, Nat.reduceAdd, Nat.reduceLT, bne_self_eq_false, bT, eq_self, true_implies, false_implies, forall_const, if_true, if_false, Int.reduceToNat, Nat.reduceSub, Int.reduceLE, bV, Nat.reduceAdd, Nat.reduceLT, Nat.reduceLeDiff, Nat.reduceLeDiff, q0, q1, q2, q3, q8, q9, q10, q14, q75, q76, q77, hL, hlt, x5, x6, hx', w1, toNat_nat, b1, b2', b3, b4, b5', ht, r1, r2, r3, r4, r5, fillEC, fillE, List.replicate, List.set, endK, rsC, rsV, resV]
      exact .mk' (e14.trans r6) r4 r5 hv rfl -- Z2
    clear r1 r2 r3 r4 r5 r6
    have hrd : r.d.length ≤ 1048576 := by
      have := tot_mem' (w := w_RR) hmem
      simp only [w_RR, szM] at this z3
      omega
    simp only [eR, Enc.v, ht] at b7
    have bad : dOK r = false → vfB l = true := fun hd => by rw [hvf, vfM, hst, hlast, is250, decide_eq_true ht, hd]; rfl
    by_cases h1 : r.c = 255
    rotate_left
    · have hv := bad (decide_eq_false fun h => h1 h.1)
      simp -implicitDefEqProofs only [bU, reduceIte, Nat.reduceEqDiff, reduceCtorEq, implies_true, forall_const, eq_self, Nat.reduceAdd, Nat.reduceLT, bne_self_eq_false, bT, eq_self, true_implies, false_implies, forall_const, if_true, if_false, Int.reduceToNat, Nat.reduceSub, Int.reduceLE, bV, Nat.reduceAdd, Nat.reduceLT, Nat.reduceLeDiff, Nat.reduceLeDiff, q0, q1, q2, q3, q8, q9, q10, q14, q75, q76, q77, hL, hlt, x5, x6, hx', w1, toNat_nat, b1, b2', b3, b4, b5', b6, b7, ht, h1, endK, rsC, rsV, resV]
      exact .mk' e14 rfl rfl hv rfl -- Z3
    by_cases h2 : r.ttl = 0
    rotate_left
    · have hv := bad (decide_eq_false fun h => h2 h.2.1)
      simp -implicitDefEqProofs only [bU, reduceIte, Nat.reduceEqDiff, reduceCtorEq, implies_true, forall_const, eq_self, Nat.reduceAdd, Nat.reduceLT, bne_self_eq_false, bT, eq_self, true_implies, false_implies, forall_const, if_true, if_false, Int.reduceToNat, Nat.reduceSub, Int.reduceLE, bV, Nat.reduceAdd, Nat.reduceLT, Nat.reduceLeDiff, Nat.reduceLeDiff, q0, q1, q2, q3, q8, q9, q10, q14, q75, q76, q77, hL, hlt, x5, x6, hx', w1, toNat_nat, b1, b2', b3, b4, b5', b6, b7, ht, h1, h2, endK, rsC, rsV, resV]
      exact .mk' e14 rfl rfl hv rfl -- Z4
    by_cases h3 : r.d.length = 61
    rotate_left
    · have hv := bad (decide_eq_false fun h => h3 h.2.2.1.1)
      have h3' : ¬ (r.d.length : Int) = 61 := by omega
      simp -implicitDefEqProofs only [bU, reduceIte, Nat.reduceEqDiff, reduceCtorEq, implies_true, forall_const, eq_self, Nat.reduceAdd, Nat.reduceLT, bne_self_eq_false, bT, eq_self, true_implies, false_implies, forall_const, if_true, if_false, Int.reduceToNat, Nat.reduceSub, Int.reduceLE, bV, Nat.reduceAdd, Nat.reduceLT, Nat.reduceLeDiff, Nat.reduceLeDiff, q0, q1, q2, q3, q8, q9, q10, q14, q75, q76, q77, hL, hlt, x5, x6, hx', w1, toNat_nat, b1, b2', b3, b4, b5', b6, b7, ht, h1, h2, h3', endK, rsC, rsV, resV]
      exact .mk' e14 rfl rfl hv rfl -- Z5
    have h3' : ((r.d.length : Int) = 61) = True := eq_true (by omega)
    have t13 : (r.d.take 13).length = 13 := by rw [List.length_take]; omega
    obtain ⟨v5, H5, k5, rfl, e5⟩ := hL' (r.d.take 13) H4 (by omega)
    have g13 : (13 : Int) ≤ (r.d.length : Int) := by omega
    by_cases h4 : (r.d.take 13).map low = algN
    rotate_left
    · have hv := bad (decide_eq_false fun h => h4 h.2.2.1.2)
      unfold algN at h4
      simp -implicitDefEqProofs only [bU, reduceIte, Nat.reduceEqDiff, reduceCtorEq, implies_true, forall_const, eq_self, Nat.reduceAdd, Nat.reduceLT, bne_self_eq_false, bT, eq_self, true_implies, false_implies, forall_const, if_true, if_false, Int.reduceToNat, Nat.reduceSub, Int.reduceLE, bV, Nat.reduceAdd, Nat.reduceLT, Nat.reduceLeDiff, Nat.reduceLeDiff, q0, q1, q2, q3, q8, q9, q10, q14, q75, q76, q77, hL, hlt, x5, x6, hx', w1, toNat_nat, b1, b2', b3, b4, b5', b6, b7, ht, h1, h2, h3', g13, Int.reduceToNat, Int.reduceLE, Nat.reduceSub, k5, h4, endK, rsC, rsV, resV]
      exact .mk' (e14.trans e5) rfl rfl hv rfl -- Z6
    have h4' := h4
    unfold algN at h4'
    have hd13 : (r.d.drop 13).length = 48 := by rw [List.length_drop]; omega
    have x0 : (r.d.drop 13).take (r.d.length - 13) = r.d.drop 13 := List.take_of_length_le (by omega)
    have g6 : (6 : Int) ≤ ((r.d.drop 13).length : Int) := by omega
    have g8 : (8 : Int) ≤ ((r.d.drop 13).length : Int) := by omega
    have g10 : (10 : Int) ≤ ((r.d.drop 13).length : Int) := by omega
    have g42 : (42 : Int) ≤ ((r.d.drop 13).length : Int) := by omega
    have g44 : (44 : Int) ≤ ((r.d.drop 13).length : Int) := by omega
    have x1 : ((r.d.drop 13).drop 8).take 2 = (r.d.drop 21).take 2 := by rw [List.drop_drop]
    have x2' : (r.d.drop 13).drop 44 = r.d.drop 57 := by rw [List.drop_drop]
    have x3' : (r.d.drop 57).take ((r.d.drop 13).length - 44) = r.d.drop 57 := List.take_of_length_le (by rw [List.length_drop]; omega)
    have tm : (List.take 32 (List.drop 10 (r.d.drop 13))).length ≤ 32 := by rw [List.length_take]; omega
    by_cases h5 : (r.d.drop 21).take 2 = [0, 32]
    rotate_left
    · have hv := bad (decide_eq_false fun h => h5 h.2.2.2.1)
      simp -implicitDefEqProofs only [bU, reduceIte, Nat.reduceEqDiff, reduceCtorEq, implies_true, forall_const, eq_self, Nat.reduceAdd, Nat.reduceLT, bne_self_eq_false, bT, eq_self, true_implies, false_implies, forall_const, if_true, if_false, Int.reduceToNat, Nat.reduceSub, Int.reduceLE, bV, Nat.reduceAdd, Nat.reduceLT, Nat.reduceLeDiff, Nat.reduceLeDiff, lgAt, isRd, q0, q1, q2, q3, q8, q9, q10, q14, q75, q76, q77, hL, hlt, x5, x6, hx', w1, toNat_nat, b1, b2', b3, b4, b5', b6, b7, ht, h1, h2, h3', g13, Int.reduceToNat, Int.reduceLE, Nat.reduceSub, k5, h4', x0, g6, g8, g10, g42, g44, x1, x2', x3', h5, endK, rsC, rsV, resV]
      exact .mk' (e14.trans e5) rfl rfl hv rfl -- Z7
    by_cases h6 : r.d.drop 57 = [0, 0, 0, 0]
    rotate_left
    · have hv := bad (decide_eq_false fun h => h6 h.2.2.2.2)
      simp -implicitDefEqProofs only [bU, reduceIte, Nat.reduceEqDiff, reduceCtorEq, implies_true, forall_const, eq_self, Nat.reduceAdd, Nat.reduceLT, bne_self_eq_false, bT, eq_self, true_implies, false_implies, forall_const, if_true, if_false, Int.reduceToNat, Nat.reduceSub, Int.reduceLE, bV, Nat.reduceAdd, Nat.reduceLT, Nat.reduceLeDiff, Nat.reduceLeDiff, lgAt, isRd, q0, q1, q2, q3, q8, q9, q10, q14, q75, q76, q77, hL, hlt, x5, x6, hx', w1, toNat_nat, b1, b2', b3, b4, b5', b6, b7, ht, h1, h2, h3', g13, Int.reduceToNat, Int.reduceLE, Nat.reduceSub, k5, h4', x0, g6, g8, g10, g42, g44, x1, x2', x3', h5, hRp, h6, endK, rsC, rsV, resV]
      exact .mk' (e14.trans e5) rfl rfl hv rfl -- Z8
    have hdk : dOK r = true := decide_eq_true ⟨h1, h2, ⟨h3, h4⟩, h5, h6⟩
    have hv : vfB l = false := by rw [hvf, vfM, hst, hlast, hdk]; simp
    have x4' : ([0, 0, 0, 0] : List UInt8).take ((r.d.drop 13).length - 44) = [0, 0, 0, 0] := by rw [hd13]; rfl
    have e15 := e14.trans e5
    have hb5 : Byt H5 a l := h.ext e15
    have hc5 : Cl H5 a := hc.fr fun i hi => e15.at' i (Sl.lt h i hi)
    obtain ⟨v6, H6, k6, ⟨at', rfl, y5, y6⟩, e6⟩ := hLR a l m la H5 hb5 hc5 hm (hF.ext e15)
    have e16 := e15.trans e6
    have hb6 : Byt H6 a l := h.ext e16
    have hc6 : Cl H6 a := hc.fr fun i hi => e16.at' i (Sl.lt h i hi)
    have tb := b2_lt (l := l) (k := 10) (by omega)
    obtain ⟨H7, k7, e7⟩ := hP (b2 l 10 - 1) H6 (by omega)
    have e17 := e16.trans e7
    have hb7 : Byt H7 a l := h.ext e17
    have hc7 : Cl H7 a := hc.fr fun i hi => e17.at' i (Sl.lt h i hi)
    obtain ⟨s1, s2, s3⟩ := byt_sub hb6 hc6 (lo := 2) (hi := 10) (by omega) (by omega)
    obtain ⟨s4, s5⟩ := s3.cbs
    obtain ⟨-, s2', s3'⟩ := byt_sub hb7 hc7 (lo := 2) (hi := 10) (by omega) (by omega)
    obtain ⟨s4', s5'⟩ := s3'.cbs
    obtain ⟨u1, u2, u3⟩ := byt_sub hb6 hc6 (lo := 10) (hi := 12) (by omega) (by omega)
    obtain ⟨u4, u5⟩ := u3.cbs
    obtain ⟨t1, t2, t3⟩ := byt_sub hb6 hc6 (lo := 12) (hi := at') (by omega) (by omega)
    obtain ⟨t4, t5⟩ := t3.cbs
    obtain ⟨-, t2', t3'⟩ := byt_sub hb7 hc7 (lo := 12) (hi := at') (by omega) (by omega)
    obtain ⟨t4', t5'⟩ := t3'.cbs
    have c2 : ((2 : Nat) : Int) = 2 := rfl
    have c10 : ((10 : Nat) : Int) = 10 := rfl
    have c12 : ((12 : Nat) : Int) = 12 := rfl
    simp only [c2, c10, c12, Nat.reduceSub] at s1 s5 s5' u1 u5 t1 t5 t5'
    have hS2 : ((l.drop 10).take 2).length = 2 := by rw [List.length_take, List.length_drop]; omega
    have ku := fun H => hU ((l.drop 10).take 2) H (by omega)
    rw [show num (((l.drop 10).take 2).take 2) 0 = b2 l 10 by rw [List.take_take]; rfl] at ku
    have wu : IntKind.i64.wrap (((b2 l 10 : Nat) : Int) - 1) = ((b2 l 10 - 1 : Nat) : Int) := by rw [w64 (by omega) (by omega)]; omega
    simp -implicitDefEqProofs only [bU, reduceIte, Nat.reduceEqDiff, reduceCtorEq, implies_true, forall_const, eq_self, Nat.reduceAdd, Nat.reduceLT, bne_self_eq_false, bT, eq_self, true_implies, false_implies, forall_const, if_true, if_false, Int.reduceToNat, Nat.reduceSub, Int.reduceLE, bV, Nat.reduceAdd, Nat.reduceLT, Nat.reduceLeDiff, Nat.reduceLeDiff, lgAt, isRd, q0, q1, q2, q3, q8, q9, q10, q14, q75, q76, q77, hL, hlt, x5, x6, hx', w1, toNat_nat, b1, b2', b3, b4, b5', b6, b7, ht, h1, h2, h3', g13, Int.reduceToNat, Int.reduceLE, Nat.reduceSub, k5, h4', x0, g6, g8, g10, g42, g44, x1, x2', x3', x4', h5, hRp, h6, k6, k7, oa, s1, s2, s4, s5, s2', s4', s5', u1, u2, u4, u5, t1, t2, t4, t5, t2', t4', t5', ku, wu, l2, n1, n2]
    have lb : (be16 (b2 l 10 - 1)).length = 2 := rfl
    refine ⟨by rw [List.length_take, List.length_take]; omega, by rw [List.length_append, List.length_take, List.length_take, lb]; omega, by rw [List.length_append, List.length_append, List.length_take, List.length_take, List.length_take, lb]; omega, ?_⟩
    generalize List.take 2 (List.drop 42 (List.drop 13 r.d)) ++ List.take 8 (List.drop 2 l) ++ be16 (b2 l 10 - 1) ++ List.take (at' - 12) (List.drop 12 l) = body
    generalize List.take 32 (List.drop 10 (List.drop 13 r.d)) = sm
    refine exec_loop (fun n e M => ∃ (L : List Lv) (g g17 g25 : Nat) (x17 : AV), look e 8 = .la 8 0 0 0 ∧ look e 25 = .la 25 g25 0 0 ∧ look e 194 = .i .i64 0 ∧ look e 195 = .i .i64 0 ∧ M = ⟨L, g, H7.new (.arr true 0 1 (encB body))⟩ ∧
      keepL [1, 2, 3, 8, 17, 19, 20, 21, 24, 25, 193, 194, 195] L = [⟨25, g25, 0, [.ag [.i .i64 0, .b true, .i .i64 (-1), .s sm, .sl H7.n 0 body.length]]⟩, ⟨17, g17, 0, [x17]⟩, ⟨8, 0, 0, [.ag [.i .i64 0, .b false, .i .i64 0, .s [], .ns]]⟩]) ?_ (n := 0) ⟨_, _, _, _, _, rfl, rfl, rfl, rfl, rfl, rfl⟩ -- Z9
    clear q0 q1 q2 q3 q8 q9 q10 q14 q75 q76 q77 hL
    rintro n e M ⟨L, g, g17, g25, x17, q8, q25, q194, q195, rfl, hL⟩
    simp -implicitDefEqProofs only [bU, reduceIte, Nat.reduceEqDiff, reduceCtorEq, implies_true, forall_const, eq_self, Nat.reduceAdd, Nat.reduceLT, bne_self_eq_false, bT, eq_self, true_implies, false_implies, forall_const, if_true, if_false, Int.reduceToNat, Nat.reduceSub, Int.reduceLE, bV, Nat.reduceAdd, Nat.reduceLT, Nat.reduceLeDiff, Nat.reduceLeDiff, lgAt, isRd, q8, q25, q194, q195, hL, Int.reduceLT, Int.reduceLE, Int.reduceNeg, endK, rsC, rsV, resV]
    exact .mk' (e17.trans (.new _ _)) rfl rfl hv rfl -- Z10
end
end Go.Vm
/- Functions' code as literals of the abstract machine, printed by wip/tools/lits.py; the kernel checks each against the translation. -/
namespace Go.Vm
set_option linter.unusedVariables false
set_option linter.unusedSimpArgs false
/-- loop.example/s01858/laws.toByteS -/
def c_laws_toByteS : Fn := ⟨1, [(.t 2)],
    .q (.o [.mv 2 (.c .ns)])
    (.q (.o [.mv 5 (.t 0),
      .ln 6 (.t 5),
      .mk 7 (.i .u8 0) 1 1 (.t 6),
      .mv 3 (.t 7)])
    (.q (.q (.o [.mv 4 (.c (.i .i64 0))])
    (.b 0 (.l [0, 3, 4] (.q (.q (.o [.mv 8 (.t 4),
      .mv 9 (.t 0),
      .ln 10 (.t 9),
      .bn 11 .lss (.t 8) (.t 10)])
    (.i (.t 11) (.k)
    (.x 0)))
    (.q (.b 1 (.o [.mv 14 (.t 3),
      .mv 15 (.t 4),
      .mv 16 (.t 0),
      .mv 17 (.t 4),
      .ia 18 (.t 16) (.t 17) 1,
      .ld 19 (.t 18) none,
      .ia 20 (.t 14) (.t 15) 1,
      .st (.t 20) (.t 19) 1]))
    (.o [.mv 12 (.t 4),
      .bn 13 .add (.t 12) (.c (.i .i64 1)),
      .mv 4 (.t 13)]))))))
    (.q (.o [.mv 21 (.t 3),
      .mv 2 (.t 21)])
    (.r))))⟩
abbrev n_laws_toByteS : Nat := 20
theorem k_laws_toByteS : chkF Go.Proofs.Tryd.prog c_laws_toByteS 20 = true := by kernel_rfl
/-- loop.example/s01858/laws.eqByteS -/
def c_laws_eqByteS : Fn := ⟨2, [(.t 4)],
    .q (.o [.mv 4 (.c (.b false))])
    (.q (.q (.o [.mv 6 (.t 0),
      .ln 7 (.t 6),
      .mv 8 (.t 1),
      .ln 9 (.t 8),
      .bn 10 .neq (.t 7) (.t 9)])
    (.i (.t 10) (.q (.o [.mv 4 (.c (.b false))])
    (.r))
    (.k)))
    (.q (.q (.o [.mv 5 (.c (.i .i64 0))])
    (.b 0 (.l [0, 1, 5] (.q (.q (.o [.mv 11 (.t 5),
      .mv 12 (.t 0),
      .ln 13 (.t 12),
      .bn 14 .lss (.t 11) (.t 13)])
    (.i (.t 14) (.k)
    (.x 0)))
    (.q (.b 1 (.q (.p [⟨.mv 17 (.t 0), [], false⟩,
      ⟨.mv 18 (.t 5), [], false⟩,
      ⟨.ia 19 (.t 17) (.t 18) 1, [], false⟩,
      ⟨.ld 20 (.t 19) none, [], false⟩,
      ⟨.mv 21 (.t 1), [], false⟩,
      ⟨.mv 22 (.t 5), [], false⟩,
      ⟨.ia 23 (.t 21) (.t 22) 1, [], false⟩,
      ⟨.ld 24 (.t 23) none, [], false⟩,
      ⟨.bn 25 .neq (.t 20) (.t 24), [], false⟩])
    (.i (.t 25) (.q (.o [.mv 4 (.c (.b false))])
    (.r))
    (.k))))
    (.o [.mv 15 (.t 5),
      .bn 16 .add (.t 15) (.c (.i .i64 1)),
      .mv 5 (.t 16)]))))))
    (.q (.o [.mv 4 (.c (.b true))])
    (.r))))⟩
abbrev n_laws_eqByteS : Nat := 22
theorem k_laws_eqByteS : chkF Go.Proofs.Tryd.prog c_laws_eqByteS 22 = true := by kernel_rfl
end Go.Vm
/- Bytes copied and compared (the laws' helpers). -/
namespace Go.Vm
set_option linter.unusedVariables false
set_option linter.unusedSimpArgs false
def T_copyB (C : Tab) (f : Nat) : Prop := ∀ a l H, Byt H a l → l.length ≤ 1099511627776 → ∃ v H', C f [a] H = some (v, H') ∧ Byt H' v l ∧ Cl H' v ∧ Ext H H'
def T_sameB (C : Tab) (f : Nat) : Prop := ∀ a b l H, Byt H a l → Byt H b l → l.length ≤ 1099511627776 → C f [a, b] H = some (.b true, H)
theorem row_st {H : AH} {l : List UInt8} {id n : Nat} (hn : l.length = n) (h1 : id < H.n) (h2 : H.at' id = .arr true 0 1 (encB l)) {j : Nat} (hj : j < n) (b : UInt8) :
    slZ H 1 (.sl id 0 n) ∧ iaC (j : Int) (.sl id 0 n) ∧ (∀ (L : List Lv) (g : Nat), stC ⟨L, g, H⟩ (.i .u8 b.toNat) (iaV j (.sl id 0 n))) ∧ ∀ (L : List Lv) (g : Nat), stM ⟨L, g, H⟩ (.i .u8 b.toNat) (iaV j (.sl id 0 n)) = ⟨L, g, H.set id (.arr true 0 1 (encB (l.set j b)))⟩ := by
  have m0 : Mb H (.sl id 0 n) l := by
    have := Mn.own (H := H) (z := 1) h1 h2
    rw [enc_len, hn] at this
    exact this
  obtain ⟨p1, p2, -⟩ := Mb.st m0 (j := j) (by omega) (by omega) b [] 0
  have hg := enc_get (l := l) (i := j) (by omega)
  refine ⟨p1, p2, fun L g => ?_, fun L g => ?_⟩
  · simp only [iaV, stC, h2, Nat.zero_add]
    exact ⟨trivial, by rw [enc_len]; omega, by rw [enc_len]; omega, by rw [hg]; exact Nat.le_refl _⟩
  · simp only [iaV, stM, h2, Nat.zero_add]
    rw [hg, setEl_one rfl (fun cs h => by cases h), enc_set]
    rfl
section
variable {C : Tab}
theorem r_copyB {a : AV} {l : List UInt8} {H : AH} (h : Byt H a l) (hl : l.length ≤ 1099511627776) : Runs C c_laws_toByteS [a] H fun v H' => Byt H' v l ∧ Cl H' v ∧ Ext H H' := by
  unfold Runs c_laws_toByteS
  obtain ⟨h1, h2⟩ := h.len
  simp only [bS, reduceIte, Nat.reduceEqDiff, h1, h2]
  refine ⟨by omega, exec_loop (fun n e M => ∃ i : Nat, i ≤ l.length ∧ n = l.length - i ∧ look e 0 = a ∧ look e 3 = .sl H.n 0 l.length ∧ look e 4 = .i .i64 i ∧ ∃ L g H', M = ⟨L, g, H'⟩ ∧ Ext H H' ∧ H.n < H'.n ∧ H'.at' H.n = .arr true 0 1 (encB (l.take i ++ List.replicate (l.length - i) 0))) ?_ (n := l.length) ⟨0, by omega, by omega, rfl, rfl, rfl, _, _, _, rfl, .new _ _, by simp, ?_⟩⟩
  · rintro n e M ⟨i, hi, rfl, q0, q3, q4, L, g, H', rfl, he, hn, hm⟩
    simp only [bS, reduceIte, Nat.reduceEqDiff, q0, q3, q4, h1, h2, Mem.keep]
    refine ⟨fun hlt => ?_, fun hge => ?_⟩
    · obtain ⟨b1, b2, b3, b4⟩ := Byt.ia (h.ext he) (j := i) (by omega) hlt (keepL [0, 3, 4] L) g
      obtain ⟨c1, c2, c3, c4⟩ := row_st (n := l.length) (by rw [List.length_append, List.length_take, List.length_replicate]; omega) hn hm (j := i) (by omega) (l.getD i 0)
      rw [toNat_nat] at b3 b4
      simp only [toNat_nat, b1, b2, b3, b4, c1, c2, c3, c4, bS, reduceIte, Nat.reduceEqDiff, List.length_cons, List.length_nil]
      refine ⟨l.length - (i + 1), by omega, i + 1, by omega, rfl, by rw [w64 (by omega) (by omega)]; rfl, _, _, _, rfl, he.set (Nat.le_refl _), hn, ?_⟩
      rw [take_rep_set (by omega)]
      exact set_at
    · have hil : i = l.length := by omega
      subst hil
      simp only [bS, reduceIte, Nat.reduceEqDiff, q3, endK, rsC, rsV, resV]
      rw [List.take_length, Nat.sub_self, List.replicate_zero, List.append_nil] at hm
      have m0 := Mn.own (H := H') (z := 1) hn hm
      rw [enc_len] at m0
      refine ⟨m0.sl, fun i hi rw st z xs he' => ?_, he⟩
      simp only [idA, List.mem_singleton] at hi
      subst hi
      rw [hm] at he'
      cases he'
      decide
  · rw [toNat_nat]
    simp [encB]
theorem r_sameB {a b : AV} {l : List UInt8} {H : AH} (h : Byt H a l) (h' : Byt H b l) (hl : l.length ≤ 1099511627776) : Runs C c_laws_eqByteS [a, b] H fun v H' => H' = H ∧ v = .b true := by
  unfold Runs c_laws_eqByteS
  obtain ⟨h1, h2⟩ := Byt.len h
  obtain ⟨h3, h4⟩ := Byt.len h'
  simp only [bS, reduceIte, Nat.reduceEqDiff, h1, h2, h3, h4]
  refine ⟨fun h => by simp at h, fun _ => exec_loop (fun n e M => ∃ i : Nat, i ≤ l.length ∧ n = l.length - i ∧ look e 0 = a ∧ look e 1 = b ∧ look e 5 = .i .i64 i ∧ ∃ L g, M = ⟨L, g, H⟩) ?_ (n := l.length) ⟨0, by omega, by omega, rfl, rfl, rfl, _, _, rfl⟩⟩
  rintro n e M ⟨i, hi, rfl, q0, q1, q5, L, g, rfl⟩
  simp only [bS, reduceIte, Nat.reduceEqDiff, q0, q1, q5, h1, h2, Mem.keep]
  refine ⟨fun hlt => ?_, fun hge => ?_⟩
  · obtain ⟨b1, b2, b3, b4⟩ := Byt.ia h (j := i) (by omega) hlt (keepL [0, 1, 5] L) g
    obtain ⟨c1, c2, c3, c4⟩ := Byt.ia h' (j := i) (by omega) hlt (keepL [0, 1, 5] L) g
    simp only [b1, b2, b3, b4, c1, c2, c3, c4, bS, reduceIte, Nat.reduceEqDiff]
    refine ⟨fun h => by simp at h, fun _ => ⟨l.length - (i + 1), by omega, i + 1, by omega, rfl, by rw [w64 (by omega) (by omega)]; rfl, _, _, rfl⟩⟩
  · simp only [bS, reduceIte, Nat.reduceEqDiff, endK, rsC, rsV, resV]
end
end Go.Vm
/- Triage: both sides. -/
namespace Go.Vm
set_option linter.unusedVariables false
set_option linter.unusedSimpArgs false
def T_RdE (C : Tab) (f : Nat) : Prop := ∀ (q a b c : AV) (m : Msg) (H : AH), MsgS H q a b c m → szM m ≤ 1048576 → ∃ v H', C f [mV m.h q a b c] H = some (v, H') ∧ RePost (rdE m) H v H'
def triM (m : Msg) : Int :=
  if m.q.length = 1 then (if (rdE m).2 = 0 then (if vfM m = true then 2 else if m.h.op ≠ 0 ∧ m.h.op ≠ 5 then 3 else if 0 < (rdE m).1.ver then 4 else if m.h.op = 5 then 5 else 6) else 2) else 2
/-- What a datagram is worth. -/
def triR (l : List UInt8) : Int :=
  if l.length < 12 then 1 else if (hdOf (l.take 12)).qr = true then 1 else match msgR l with
    | .error _ => 2
    | .ok (m, _) => triM m
def T_Triage (C : Tab) (f : Nat) : Prop := ∀ (a : AV) (l : List UInt8) (H : AH), Byt H a l → Cl H a → l.length ≤ 1099511627776 → FormsOK H → ∃ v H', C f [a] H = some (v, H') ∧ v = .i .i64 (triR l) ∧ Ext H H'
def T_triaged (C : Tab) (f : Nat) : Prop := ∀ (a : AV) (l : List UInt8) (H : AH), Byt H a l → Cl H a → l.length ≤ 1099511627776 → FormsOK H → ∃ v H', C f [a] H = some (v, H') ∧ (∃ h q a b c e o, v = .tp [.i .i64 (triR l), mV h q a b c, edV e o] ∧ q.outs = true ∧ a.outs = true ∧ b.outs = true ∧ c.outs = true ∧ o.outs = true) ∧ Ext H H'
section
variable {C : Tab}
set_option maxRecDepth 100000 in
set_option maxHeartbeats 4000000 in
theorem r_specTriage {a : AV} {l : List UInt8} {H : AH} (hH : T_Head C n_spec_DecodeHead) (hD : ∀ (a : AV) (l : List UInt8) (H : AH), Byt H a l → Cl H a → l.length ≤ 1099511627776 → ∃ v H', C n_spec_Decode [a] H = some (v, H') ∧ DcPost (msgR l) H v H') (hE : T_RdE C n_spec_ReadEdns) (hV : T_Verify C n_spec_Verify)
    (h : Byt H a l) (hc : Cl H a) (hl : l.length ≤ 1099511627776) (hF : FormsOK H) : Runs C c_spec_Triage [a] H fun v H' => v = .i .i64 (triR l) ∧ Ext H H' := by
  unfold Runs c_spec_Triage
  generalize hr : triR l = R
  unfold triR at hr
  have oa := h.out
  obtain ⟨v1, H1, k1, rfl, rfl⟩ := hH a l H h hc
  unfold headV at k1
  by_cases g2 : l.length < 12
  · rw [if_pos g2] at k1
    rw [if_pos g2] at hr
    subst hr
    simp only [eH, Enc.v, hd0, cnt0] at k1
    simp -implicitDefEqProofs only [bU, reduceIte, Nat.reduceEqDiff, reduceCtorEq, implies_true, forall_const, eq_self, Nat.reduceAdd, Nat.reduceLT, bne_self_eq_false, bT, eq_self, true_implies, false_implies, forall_const, if_true, if_false, Int.reduceToNat, Nat.reduceSub, Int.reduceLE, bV, Nat.reduceAdd, Nat.reduceLT, Nat.reduceLeDiff, Nat.reduceLeDiff, oa, k1, Int.reduceEq, endK, rsC, rsV, resV]
    exact .refl H1
  rw [if_neg g2] at k1 hr
  rw [cntV] at k1
  have hhd := fun m la (hm : msgR l = .ok (m, la)) => (msgR_bnd hm).2.2.2.2.2.2.2.2.1
  generalize hdOf (l.take 12) = hh at *
  simp only [eH, Enc.v] at k1
  by_cases g3 : hh.qr = true
  · rw [if_pos g3] at hr
    subst hr
    simp -implicitDefEqProofs only [bU, reduceIte, Nat.reduceEqDiff, reduceCtorEq, implies_true, forall_const, eq_self, Nat.reduceAdd, Nat.reduceLT, bne_self_eq_false, bT, eq_self, true_implies, false_implies, forall_const, if_true, if_false, Int.reduceToNat, Nat.reduceSub, Int.reduceLE, bV, Nat.reduceAdd, Nat.reduceLT, Nat.reduceLeDiff, Nat.reduceLeDiff, oa, k1, g3, Int.reduceEq, endK, rsC, rsV, resV]
    exact .refl H1
  rw [if_neg g3] at hr
  have g3' : hh.qr = false := by simpa using g3
  obtain ⟨v2, H2, k2, e2, hpost⟩ := hD a l H1 h hc hl
  cases hm : msgR l with
  | error c =>
    rw [hm] at hpost hr
    simp only at hr
    subst hpost hr
    have hc0 := msgR_e hm
    simp only [mV, hd0] at k2
    simp -implicitDefEqProofs only [bU, reduceIte, Nat.reduceEqDiff, reduceCtorEq, implies_true, forall_const, eq_self, Nat.reduceAdd, Nat.reduceLT, bne_self_eq_false, bT, eq_self, true_implies, false_implies, forall_const, if_true, if_false, Int.reduceToNat, Nat.reduceSub, Int.reduceLE, bV, Nat.reduceAdd, Nat.reduceLT, Nat.reduceLeDiff, Nat.reduceLeDiff, oa, k1, k2, g3', hc0, Int.reduceEq, endK, rsC, rsV, resV]
    exact e2
  | ok x =>
    obtain ⟨m, la⟩ := x
    rw [hm] at hpost hr
    simp only at hr
    obtain ⟨q, a', b, c, rfl, hms⟩ := hpost
    obtain ⟨z1, z2, z3, z4, z5, z6, z7, z8, -, z10⟩ := msgR_bnd hm
    have o1 := hms.hq.sl.out
    have o2 := hms.ha.sl.out
    have o3 := hms.hb.sl.out
    have o4 := hms.hc.sl.out
    obtain ⟨x1, x2⟩ := Sx.len hms.hq.sl
    unfold triM at hr
    have hvf : vfB l = vfM m := by unfold vfB; rw [hm]
    obtain ⟨v3, H3, k3, eo, rfl, hmx, e3, -⟩ := hE q a' b c m H2 hms.s z3
    have e23 := e2.trans e3
    have oo := hmx.sl.out
    obtain ⟨v4, H4, k4, e4, cd, s, k, t, bd, rfl, ob, obc, hcd⟩ := hV a l H3 (h.ext e23) (hc.fr fun i hi => e23.at' i (Sl.lt h i hi)) hl (hF.ext e23)
    rw [hvf] at hcd
    generalize hrd : rdE m = rd at *
    obtain ⟨ed, rc⟩ := rd
    simp only at k3 hmx
    simp only [mV] at k2 k3
    simp only [edV] at k3
    by_cases c1 : m.q.length = 1
    rotate_left
    · have c1' : ((m.q.length : Int) = 1) = False := eq_false (by omega)
      rw [if_neg c1] at hr
      subst hr
      simp -implicitDefEqProofs only [bU, reduceIte, Nat.reduceEqDiff, reduceCtorEq, implies_true, forall_const, eq_self, Nat.reduceAdd, Nat.reduceLT, bne_self_eq_false, bT, eq_self, true_implies, false_implies, forall_const, if_true, if_false, Int.reduceToNat, Nat.reduceSub, Int.reduceLE, bV, Nat.reduceAdd, Nat.reduceLT, Nat.reduceLeDiff, Nat.reduceLeDiff, oa, k1, k2, g3', o1, o2, o3, o4, x1, x2, c1', Int.reduceEq, endK, rsC, rsV, resV]
      exact e2
    have c1' : ((m.q.length : Int) = 1) = True := eq_true (by omega)
    rw [if_pos c1] at hr
    by_cases c2 : rc = 0
    rotate_left
    · rw [if_neg c2] at hr
      subst hr
      simp -implicitDefEqProofs only [bU, reduceIte, Nat.reduceEqDiff, reduceCtorEq, implies_true, forall_const, eq_self, Nat.reduceAdd, Nat.reduceLT, bne_self_eq_false, bT, eq_self, true_implies, false_implies, forall_const, if_true, if_false, Int.reduceToNat, Nat.reduceSub, Int.reduceLE, bV, Nat.reduceAdd, Nat.reduceLT, Nat.reduceLeDiff, Nat.reduceLeDiff, oa, k1, k2, k3, g3', o1, o2, o3, o4, oo, x1, x2, c1', c2, Int.reduceEq, endK, rsC, rsV, resV]
      exact e23
    rw [if_pos c2] at hr
    by_cases c3 : vfM m = true
    · have c3' := hcd.2 c3
      rw [if_pos c3] at hr
      subst hr
      simp -implicitDefEqProofs only [bU, reduceIte, Nat.reduceEqDiff, reduceCtorEq, implies_true, forall_const, eq_self, Nat.reduceAdd, Nat.reduceLT, bne_self_eq_false, bT, eq_self, true_implies, false_implies, forall_const, if_true, if_false, Int.reduceToNat, Nat.reduceSub, Int.reduceLE, bV, Nat.reduceAdd, Nat.reduceLT, Nat.reduceLeDiff, Nat.reduceLeDiff, oa, k1, k2, k3, k4, g3', o1, o2, o3, o4, oo, x1, x2, c1', c2, c3', Int.reduceEq, endK, rsC, rsV, resV]
      exact e23.trans e4
    have c3' : ¬ cd = 32 := fun e => c3 (hcd.1 e)
    rw [if_neg c3] at hr
    have e24 := e23.trans e4
    by_cases p1 : m.h.op = 0
    · rw [if_neg (by omega)] at hr
      rw [p1] at k2 k3
      by_cases p3 : 0 < ed.ver
      · rw [if_pos p3] at hr
        subst hr
        simp -implicitDefEqProofs only [bU, reduceIte, Nat.reduceEqDiff, reduceCtorEq, implies_true, forall_const, eq_self, Nat.reduceAdd, Nat.reduceLT, bne_self_eq_false, bT, eq_self, true_implies, false_implies, forall_const, if_true, if_false, Int.reduceToNat, Nat.reduceSub, Int.reduceLE, bV, Nat.reduceAdd, Nat.reduceLT, Nat.reduceLeDiff, Nat.reduceLeDiff, oa, k1, k2, k3, k4, g3', o1, o2, o3, o4, oo, x1, x2, c1', c2, c3', p1, p3, Int.reduceEq, endK, rsC, rsV, resV]
        exact e24
      · rw [if_neg p3, if_neg (by omega)] at hr
        subst hr
        simp -implicitDefEqProofs only [bU, reduceIte, Nat.reduceEqDiff, reduceCtorEq, implies_true, forall_const, eq_self, Nat.reduceAdd, Nat.reduceLT, bne_self_eq_false, bT, eq_self, true_implies, false_implies, forall_const, if_true, if_false, Int.reduceToNat, Nat.reduceSub, Int.reduceLE, bV, Nat.reduceAdd, Nat.reduceLT, Nat.reduceLeDiff, Nat.reduceLeDiff, oa, k1, k2, k3, k4, g3', o1, o2, o3, o4, oo, x1, x2, c1', c2, c3', p1, p3, Int.reduceEq, endK, rsC, rsV, resV]
        exact e24
    by_cases p2 : m.h.op = 5
    · rw [if_neg (by omega)] at hr
      rw [p2] at k2 k3
      by_cases p3 : 0 < ed.ver
      · rw [if_pos p3] at hr
        subst hr
        simp -implicitDefEqProofs only [bU, reduceIte, Nat.reduceEqDiff, reduceCtorEq, implies_true, forall_const, eq_self, Nat.reduceAdd, Nat.reduceLT, bne_self_eq_false, bT, eq_self, true_implies, false_implies, forall_const, if_true, if_false, Int.reduceToNat, Nat.reduceSub, Int.reduceLE, bV, Nat.reduceAdd, Nat.reduceLT, Nat.reduceLeDiff, Nat.reduceLeDiff, oa, k1, k2, k3, k4, g3', o1, o2, o3, o4, oo, x1, x2, c1', c2, c3', p2, p3, Int.reduceEq, endK, rsC, rsV, resV]
        exact e24
      · rw [if_neg p3, if_pos p2] at hr
        subst hr
        simp -implicitDefEqProofs only [bU, reduceIte, Nat.reduceEqDiff, reduceCtorEq, implies_true, forall_const, eq_self, Nat.reduceAdd, Nat.reduceLT, bne_self_eq_false, bT, eq_self, true_implies, false_implies, forall_const, if_true, if_false, Int.reduceToNat, Nat.reduceSub, Int.reduceLE, bV, Nat.reduceAdd, Nat.reduceLT, Nat.reduceLeDiff, Nat.reduceLeDiff, oa, k1, k2, k3, k4, g3', o1, o2, o3, o4, oo, x1, x2, c1', c2, c3', p2, p3, Int.reduceEq, endK, rsC, rsV, resV]
        exact e24
    rw [if_pos ⟨p1, p2⟩] at hr
    subst hr
    simp -implicitDefEqProofs only [bU, reduceIte, Nat.reduceEqDiff, reduceCtorEq, implies_true, forall_const, eq_self, Nat.reduceAdd, Nat.reduceLT, bne_self_eq_false, bT, eq_self, true_implies, false_implies, forall_const, if_true, if_false, Int.reduceToNat, Nat.reduceSub, Int.reduceLE, bV, Nat.reduceAdd, Nat.reduceLT, Nat.reduceLeDiff, Nat.reduceLeDiff, oa, k1, k2, k3, k4, g3', o1, o2, o3, o4, oo, x1, x2, c1', c2, c3', p1, p2, Int.reduceEq, endK, rsC, rsV, resV]
    exact e24
set_option maxRecDepth 100000 in
set_option maxHeartbeats 4000000 in
theorem r_triaged {a : AV} {l : List UInt8} {H : AH} (hH : T_Head C n_impl_DecodeHead) (hD : T_Decode C n_impl_Decode) (hE : T_RdE C n_impl_ReadEdns) (hV : T_Verify C n_impl_Verify)
    (h : Byt H a l) (hc : Cl H a) (hl : l.length ≤ 1099511627776) (hF : FormsOK H) : Runs C c_impl_triaged [a] H fun v H' => (∃ h q a b c e o, v = .tp [.i .i64 (triR l), mV h q a b c, edV e o] ∧ q.outs = true ∧ a.outs = true ∧ b.outs = true ∧ c.outs = true ∧ o.outs = true) ∧ Ext H H' := by
  unfold Runs c_impl_triaged
  generalize hr : triR l = R
  unfold triR at hr
  have oa := h.out
  obtain ⟨v1, H1, k1, rfl, rfl⟩ := hH a l H h hc
  unfold headV at k1
  by_cases g2 : l.length < 12
  · rw [if_pos g2] at k1
    rw [if_pos g2] at hr
    subst hr
    simp only [eH, Enc.v, hd0, cnt0] at k1
    simp -implicitDefEqProofs only [bU, reduceIte, Nat.reduceEqDiff, reduceCtorEq, implies_true, forall_const, eq_self, Nat.reduceAdd, Nat.reduceLT, bne_self_eq_false, bT, eq_self, true_implies, false_implies, forall_const, if_true, if_false, Int.reduceToNat, Nat.reduceSub, Int.reduceLE, bV, Nat.reduceAdd, Nat.reduceLT, Nat.reduceLeDiff, Nat.reduceLeDiff, oa, k1, Int.reduceEq, endK, rsC, rsV, resV]
    exact ⟨⟨hd0, _, _, _, _, ed0, _, rfl, rfl, rfl, rfl, rfl, rfl⟩, .refl H1⟩
  rw [if_neg g2] at k1 hr
  rw [cntV] at k1
  have hhd := fun m la (hm : msgR l = .ok (m, la)) => (msgR_bnd hm).2.2.2.2.2.2.2.2.1
  generalize hdOf (l.take 12) = hh at *
  simp only [eH, Enc.v] at k1
  by_cases g3 : hh.qr = true
  · rw [if_pos g3] at hr
    subst hr
    simp -implicitDefEqProofs only [bU, reduceIte, Nat.reduceEqDiff, reduceCtorEq, implies_true, forall_const, eq_self, Nat.reduceAdd, Nat.reduceLT, bne_self_eq_false, bT, eq_self, true_implies, false_implies, forall_const, if_true, if_false, Int.reduceToNat, Nat.reduceSub, Int.reduceLE, bV, Nat.reduceAdd, Nat.reduceLT, Nat.reduceLeDiff, Nat.reduceLeDiff, oa, k1, g3, Int.reduceEq, endK, rsC, rsV, resV]
    exact ⟨⟨hd0, _, _, _, _, ed0, _, rfl, rfl, rfl, rfl, rfl, rfl⟩, .refl H1⟩
  rw [if_neg g3] at hr
  have g3' : hh.qr = false := by simpa using g3
  obtain ⟨v2, H2, k2, e2, hpost⟩ := hD a l H1 h hc hl hF
  cases hm : msgR l with
  | error c =>
    rw [hm] at hpost hr
    simp only at hr
    subst hpost hr
    have hc0 := msgR_e hm
    obtain ⟨v3, H3, k3, eo, rfl, hmx, e3, -⟩ := hE .ns .ns .ns .ns msg0 H2 (MsgM.nil H2 0).s (by decide)
    have oo := hmx.sl.out
    generalize rdE msg0 = rd at *
    simp only [mV, hd0] at k2
    simp only [mV, msg0, hd0, edV] at k3
    simp -implicitDefEqProofs only [bU, reduceIte, Nat.reduceEqDiff, reduceCtorEq, implies_true, forall_const, eq_self, Nat.reduceAdd, Nat.reduceLT, bne_self_eq_false, bT, eq_self, true_implies, false_implies, forall_const, if_true, if_false, Int.reduceToNat, Nat.reduceSub, Int.reduceLE, bV, Nat.reduceAdd, Nat.reduceLT, Nat.reduceLeDiff, Nat.reduceLeDiff, lgAt, isRd, oa, k1, k2, k3, oo, g3', hc0, Int.reduceEq, endK, rsC, rsV, resV]
    exact ⟨⟨⟨hh.id, false, hh.op, hh.aa, hh.tc, hh.rd, hh.ra, hh.z, hh.ad, hh.cd, hh.code⟩, _, _, _, _, ed0, _, rfl, rfl, rfl, rfl, rfl, rfl⟩, e2.trans e3⟩
  | ok x =>
    obtain ⟨m, la⟩ := x
    rw [hm] at hpost hr
    simp only at hr
    obtain ⟨q, a', b, c, rfl, hms⟩ := hpost
    obtain ⟨z1, z2, z3, z4, z5, z6, z7, z8, -, z10⟩ := msgR_bnd hm
    have o1 := hms.hq.sl.out
    have o2 := hms.ha.sl.out
    have o3 := hms.hb.sl.out
    have o4 := hms.hc.sl.out
    obtain ⟨x1, x2⟩ := Sx.len hms.hq.sl
    unfold triM at hr
    have hop := hhd m la hm
    have hvf : vfB l = vfM m := by unfold vfB; rw [hm]
    obtain ⟨v3, H3, k3, eo, rfl, hmx, e3, -⟩ := hE q a' b c m H2 hms.s z3
    have e23 := e2.trans e3
    have oo := hmx.sl.out
    obtain ⟨v4, H4, k4, e4, cd, s, k, t, bd, rfl, ob, obc, hcd⟩ := hV a l H3 (h.ext e23) (hc.fr fun i hi => e23.at' i (Sl.lt h i hi)) hl (hF.ext e23)
    rw [hvf] at hcd
    generalize hrd : rdE m = rd at *
    obtain ⟨ed, rc⟩ := rd
    simp only at k3 hmx
    simp only [mV] at k2 k3
    simp only [edV] at k3
    by_cases c1 : m.q.length = 1
    rotate_left
    · have c1' : ((m.q.length : Int) = 1) = False := eq_false (by omega)
      rw [if_neg c1] at hr
      subst hr
      simp -implicitDefEqProofs only [bU, reduceIte, Nat.reduceEqDiff, reduceCtorEq, implies_true, forall_const, eq_self, Nat.reduceAdd, Nat.reduceLT, bne_self_eq_false, bT, eq_self, true_implies, false_implies, forall_const, if_true, if_false, Int.reduceToNat, Nat.reduceSub, Int.reduceLE, bV, Nat.reduceAdd, Nat.reduceLT, Nat.reduceLeDiff, Nat.reduceLeDiff, lgAt, isRd, oa, k1, k2, k3, oo, g3', o1, o2, o3, o4, x1, x2, c1', Int.reduceEq, endK, rsC, rsV, resV]
      exact ⟨⟨⟨hh.id, false, hh.op, hh.aa, hh.tc, hh.rd, hh.ra, hh.z, hh.ad, hh.cd, hh.code⟩, _, _, _, _, ed0, _, rfl, rfl, rfl, rfl, rfl, rfl⟩, e23⟩
    have c1' : ((m.q.length : Int) = 1) = True := eq_true (by omega)
    rw [if_pos c1] at hr
    by_cases c2 : rc = 0
    rotate_left
    · rw [if_neg c2] at hr
      subst hr
      simp -implicitDefEqProofs only [bU, reduceIte, Nat.reduceEqDiff, reduceCtorEq, implies_true, forall_const, eq_self, Nat.reduceAdd, Nat.reduceLT, bne_self_eq_false, bT, eq_self, true_implies, false_implies, forall_const, if_true, if_false, Int.reduceToNat, Nat.reduceSub, Int.reduceLE, bV, Nat.reduceAdd, Nat.reduceLT, Nat.reduceLeDiff, Nat.reduceLeDiff, lgAt, isRd, oa, k1, k2, k3, g3', o1, o2, o3, o4, oo, x1, x2, c1', c2, Int.reduceEq, endK, rsC, rsV, resV]
      exact ⟨⟨⟨hh.id, false, hh.op, hh.aa, hh.tc, hh.rd, hh.ra, hh.z, hh.ad, hh.cd, hh.code⟩, _, _, _, _, ed0, _, rfl, rfl, rfl, rfl, rfl, rfl⟩, e23⟩
    rw [if_pos c2] at hr
    by_cases c3 : vfM m = true
    · have c3' := hcd.2 c3
      rw [if_pos c3] at hr
      subst hr
      simp -implicitDefEqProofs only [bU, reduceIte, Nat.reduceEqDiff, reduceCtorEq, implies_true, forall_const, eq_self, Nat.reduceAdd, Nat.reduceLT, bne_self_eq_false, bT, eq_self, true_implies, false_implies, forall_const, if_true, if_false, Int.reduceToNat, Nat.reduceSub, Int.reduceLE, bV, Nat.reduceAdd, Nat.reduceLT, Nat.reduceLeDiff, Nat.reduceLeDiff, lgAt, isRd, oa, k1, k2, k3, k4, g3', o1, o2, o3, o4, oo, x1, x2, c1', c2, c3', Int.reduceEq, endK, rsC, rsV, resV]
      exact ⟨⟨⟨hh.id, false, hh.op, hh.aa, hh.tc, hh.rd, hh.ra, hh.z, hh.ad, hh.cd, hh.code⟩, _, _, _, _, ed0, _, rfl, rfl, rfl, rfl, rfl, rfl⟩, e23.trans e4⟩
    have c3' : ¬ cd = 32 := fun e => c3 (hcd.1 e)
    rw [if_neg c3] at hr
    have e24 := e23.trans e4
    have fin : ∀ v : Int, (∃ h q1 a1 b1 c1 e o1, (AV.tp [.i .i64 v, .ag [.i .i64 m.h.id, .b m.h.qr, .i .i64 m.h.op, .b m.h.aa, .b m.h.tc, .b m.h.rd, .b m.h.ra, .b m.h.z, .b m.h.ad, .b m.h.cd, .i .i64 m.h.code, q, a', b, c], .ag [.b ed.p, .i .i64 ed.sz, .i .i64 ed.ver, .i .i64 ed.fl, eo]]) = .tp [.i .i64 v, mV h q1 a1 b1 c1, edV e o1] ∧ q1.outs = true ∧ a1.outs = true ∧ b1.outs = true ∧ c1.outs = true ∧ o1.outs = true) ∧ Ext H1 H4 :=
      fun v => ⟨⟨m.h, q, a', b, c, ed, eo, rfl, o1, o2, o3, o4, oo⟩, e24⟩
    rw [hop] at hr k2 k3 fin
    rw [g3'] at k2 k3 fin
    by_cases p1 : hh.op = 0
    · rw [if_neg (by omega)] at hr
      rw [p1] at k1 k2 k3 fin
      by_cases p3 : 0 < ed.ver
      · rw [if_pos p3] at hr
        subst hr
        simp -implicitDefEqProofs only [bU, reduceIte, Nat.reduceEqDiff, reduceCtorEq, implies_true, forall_const, eq_self, Nat.reduceAdd, Nat.reduceLT, bne_self_eq_false, bT, eq_self, true_implies, false_implies, forall_const, if_true, if_false, Int.reduceToNat, Nat.reduceSub, Int.reduceLE, bV, Nat.reduceAdd, Nat.reduceLT, Nat.reduceLeDiff, Nat.reduceLeDiff, lgAt, isRd, oa, k1, k2, k3, k4, g3', o1, o2, o3, o4, oo, x1, x2, c1', c2, c3', p1, p3, Int.reduceEq, endK, rsC, rsV, resV]
        exact fin _
      · rw [if_neg p3, if_neg (by omega)] at hr
        subst hr
        simp -implicitDefEqProofs only [bU, reduceIte, Nat.reduceEqDiff, reduceCtorEq, implies_true, forall_const, eq_self, Nat.reduceAdd, Nat.reduceLT, bne_self_eq_false, bT, eq_self, true_implies, false_implies, forall_const, if_true, if_false, Int.reduceToNat, Nat.reduceSub, Int.reduceLE, bV, Nat.reduceAdd, Nat.reduceLT, Nat.reduceLeDiff, Nat.reduceLeDiff, lgAt, isRd, oa, k1, k2, k3, k4, g3', o1, o2, o3, o4, oo, x1, x2, c1', c2, c3', p1, p3, Int.reduceEq, endK, rsC, rsV, resV]
        exact fin _
    by_cases p2 : hh.op = 5
    · rw [if_neg (by omega)] at hr
      rw [p2] at k1 k2 k3 fin
      by_cases p3 : 0 < ed.ver
      · rw [if_pos p3] at hr
        subst hr
        simp -implicitDefEqProofs only [bU, reduceIte, Nat.reduceEqDiff, reduceCtorEq, implies_true, forall_const, eq_self, Nat.reduceAdd, Nat.reduceLT, bne_self_eq_false, bT, eq_self, true_implies, false_implies, forall_const, if_true, if_false, Int.reduceToNat, Nat.reduceSub, Int.reduceLE, bV, Nat.reduceAdd, Nat.reduceLT, Nat.reduceLeDiff, Nat.reduceLeDiff, lgAt, isRd, oa, k1, k2, k3, k4, g3', o1, o2, o3, o4, oo, x1, x2, c1', c2, c3', p2, p3, Int.reduceEq, endK, rsC, rsV, resV]
        exact fin _
      · rw [if_neg p3, if_pos p2] at hr
        subst hr
        simp -implicitDefEqProofs only [bU, reduceIte, Nat.reduceEqDiff, reduceCtorEq, implies_true, forall_const, eq_self, Nat.reduceAdd, Nat.reduceLT, bne_self_eq_false, bT, eq_self, true_implies, false_implies, forall_const, if_true, if_false, Int.reduceToNat, Nat.reduceSub, Int.reduceLE, bV, Nat.reduceAdd, Nat.reduceLT, Nat.reduceLeDiff, Nat.reduceLeDiff, lgAt, isRd, oa, k1, k2, k3, k4, g3', o1, o2, o3, o4, oo, x1, x2, c1', c2, c3', p2, p3, Int.reduceEq, endK, rsC, rsV, resV]
        exact fin _
    rw [if_pos ⟨p1, p2⟩] at hr
    subst hr
    simp -implicitDefEqProofs only [bU, reduceIte, Nat.reduceEqDiff, reduceCtorEq, implies_true, forall_const, eq_self, Nat.reduceAdd, Nat.reduceLT, bne_self_eq_false, bT, eq_self, true_implies, false_implies, forall_const, if_true, if_false, Int.reduceToNat, Nat.reduceSub, Int.reduceLE, bV, Nat.reduceAdd, Nat.reduceLT, Nat.reduceLeDiff, Nat.reduceLeDiff, lgAt, isRd, oa, k1, k2, k3, k4, g3', o1, o2, o3, o4, oo, x1, x2, c1', c2, c3', p1, p2, Int.reduceEq, endK, rsC, rsV, resV]
    exact fin _
theorem r_implTriage {a : AV} {l : List UInt8} {H : AH} (hT : T_triaged C n_impl_triaged) (h : Byt H a l) (hc : Cl H a) (hl : l.length ≤ 1099511627776) (hF : FormsOK H) : Runs C c_impl_Triage [a] H fun v H' => v = .i .i64 (triR l) ∧ Ext H H' := by
  unfold Runs c_impl_Triage
  have oa := h.out
  obtain ⟨v1, H1, k1, ⟨hh, q, a', b, c, e, o, rfl, o1, o2, o3, o4, o5⟩, e1⟩ := hT a l H h hc hl hF
  simp only [mV, edV] at k1
  simp -implicitDefEqProofs only [bU, reduceIte, Nat.reduceEqDiff, reduceCtorEq, implies_true, forall_const, eq_self, Nat.reduceAdd, Nat.reduceLT, bne_self_eq_false, bT, eq_self, true_implies, false_implies, forall_const, if_true, if_false, Int.reduceToNat, Nat.reduceSub, Int.reduceLE, bV, Nat.reduceAdd, Nat.reduceLT, Nat.reduceLeDiff, Nat.reduceLeDiff, oa, k1, o1, o2, o3, o4, o5, endK, rsC, rsV, resV]
  exact e1
theorem r_law_Triage {a : AV} {l : List UInt8} {H : AH} (hS : T_copyB C n_laws_toByteS) (hQ : T_sameB C n_laws_eqByteS) (h6 : T_Triage C n_spec_Triage) (h8 : T_Triage C n_impl_Triage) (h : Byt H a l) (hF : FormsOK H) :
    Runs C c_laws_FnExactTriage [a] H fun v _ => v = .b true := by
  unfold Runs c_laws_FnExactTriage
  have oa := h.out
  obtain ⟨l1, l2⟩ := h.len
  by_cases g1 : 1048576 < l.length
  · have g1' : (1048576 : Int) < (l.length : Int) := by omega
    simp -implicitDefEqProofs only [bU, reduceIte, Nat.reduceEqDiff, reduceCtorEq, implies_true, forall_const, eq_self, Nat.reduceAdd, Nat.reduceLT, bne_self_eq_false, bT, eq_self, true_implies, false_implies, forall_const, if_true, if_false, Int.reduceToNat, Nat.reduceSub, Int.reduceLE, bV, Nat.reduceAdd, Nat.reduceLT, Nat.reduceLeDiff, Nat.reduceLeDiff, l1, l2, g1', endK, rsC, rsV, resV]
  have g1' : ¬ (1048576 : Int) < (l.length : Int) := by omega
  have hl : l.length ≤ 1099511627776 := by omega
  obtain ⟨a1, H1, k1, b1, c1, e1⟩ := hS a l H h hl
  obtain ⟨v2, H2, k2, rfl, e2⟩ := h6 a1 l H1 b1 c1 hl (hF.ext e1)
  have f2 := e1.trans e2
  obtain ⟨a3, H3, k3, b3, c3, e3⟩ := hS a l H2 (h.ext f2) hl
  have f3 := f2.trans e3
  obtain ⟨v4, H4, k4, rfl, e4⟩ := h8 a3 l H3 b3 c3 hl (hF.ext f3)
  have f4 := f3.trans e4
  obtain ⟨a5, H5, k5, b5, c5, e5⟩ := hS a l H4 (h.ext f4) hl
  have k6 := hQ a3 a5 l H5 (b3.ext (e4.trans e5)) b5 hl
  have p1 := b1.out
  have p3 := b3.out
  have p5 := b5.out
  simp -implicitDefEqProofs only [bU, reduceIte, Nat.reduceEqDiff, reduceCtorEq, implies_true, forall_const, eq_self, Nat.reduceAdd, Nat.reduceLT, bne_self_eq_false, bT, eq_self, true_implies, false_implies, forall_const, if_true, if_false, Int.reduceToNat, Nat.reduceSub, Int.reduceLE, bV, Nat.reduceAdd, Nat.reduceLT, Nat.reduceLeDiff, Nat.reduceLeDiff, l1, l2, g1', oa, p1, p3, p5, k1, k2, k3, k4, k5, k6, endK, rsC, rsV, resV]
end
end Go.Vm
/- The library's Repeat at this translation: the layings that the kit's tools lay-shelf and lay-plain have written (the contract itself is the library's). -/
namespace Go.Proofs
open Go.Shelf
def Tryd.lays105_ren : Go.Shelf.Ren := ⟨fun | 105 => 114 | 212 => 132 | 99 => 133 | 165 => 134 | 166 => 135 | 170 => 136 | 169 => 137 | 263 => 145 | 264 => 146 | 206 => 147 | 240 => 148 | 241 => 149 | 276 => 152 | 277 => 153 | n => n, fun | 9 => 9 | 3 => 3 | 4 => 4 | 20 => 20 | 0 => 0 | 46 => 70 | 109 => 190 | 5 => 5 | 72 => 194 | 76 => 198 | 51 => 155 | 146 => 209 | 53 => 61 | 148 => 211 | 70 => 192 | 37 => 22 | 75 => 197 | 127 => 213 | 164 => 215 | 80 => 81 | n => n, fun | n => n⟩
theorem Tryd.lays105 : Go.Proofs.Lays.n105 Tryd.prog Tryd.lays105_ren := {
  mixed := by kernel_rfl
  f99 := Tryd.func133.trans (congrArg some (by kernel_rfl))
  f105 := Tryd.func114.trans (congrArg some (by kernel_rfl))
  f165 := Tryd.func134.trans (congrArg some (by kernel_rfl))
  f166 := Tryd.func135.trans (congrArg some (by kernel_rfl))
  f169 := Tryd.func137.trans (congrArg some (by kernel_rfl))
  f170 := Tryd.func136.trans (congrArg some (by kernel_rfl))
  f206 := Tryd.func147.trans (congrArg some (by kernel_rfl))
  f212 := Tryd.func132.trans (congrArg some (by kernel_rfl))
  f240 := Tryd.func148.trans (congrArg some (by kernel_rfl))
  f241 := Tryd.func149.trans (congrArg some (by kernel_rfl))
  f263 := Tryd.func145.trans (congrArg some (by kernel_rfl))
  f264 := Tryd.func146.trans (congrArg some (by kernel_rfl))
  f276 := Tryd.func152.trans (congrArg some (by kernel_rfl))
  f277 := Tryd.func153.trans (congrArg some (by kernel_rfl))
  t0 := Tryd.underlying0
  a0 := Tryd.isAgg0
  z0 := Tryd.sizeOf0
  v0 := Tryd.zeroValue0
  t3 := Tryd.underlying3
  a3 := Tryd.isAgg3
  z3 := Tryd.sizeOf3
  v3 := Tryd.zeroValue3
  t4 := Tryd.underlying4
  a4 := Tryd.isAgg4
  z4 := Tryd.sizeOf4
  v4 := Tryd.zeroValue4
  t5 := Tryd.underlying5
  a5 := Tryd.isAgg5
  z5 := Tryd.sizeOf5
  v5 := Tryd.zeroValue5
  t9 := Tryd.underlying9
  a9 := Tryd.isAgg9
  z9 := Tryd.sizeOf9
  v9 := Tryd.zeroValue9
  t20 := Tryd.underlying20
  a20 := Tryd.isAgg20
  z20 := Tryd.sizeOf20
  v20 := Tryd.zeroValue20
  t37 := Tryd.underlying22
  a37 := Tryd.isAgg22
  z37 := Tryd.sizeOf22
  v37 := Tryd.zeroValue22
  t46 := Tryd.underlying70
  a46 := Tryd.isAgg70
  z46 := Tryd.sizeOf70
  v46 := Tryd.zeroValue70
  t51 := Tryd.underlying155
  a51 := Tryd.isAgg155
  z51 := Tryd.sizeOf155
  v51 := Tryd.zeroValue155
  t53 := Tryd.underlying61
  a53 := Tryd.isAgg61
  z53 := Tryd.sizeOf61
  v53 := Tryd.zeroValue61
  t70 := Tryd.underlying192
  a70 := Tryd.isAgg192
  z70 := Tryd.sizeOf192
  v70 := Tryd.zeroValue192
  t72 := Tryd.underlying194
  a72 := Tryd.isAgg194
  z72 := Tryd.sizeOf194
  v72 := Tryd.zeroValue194
  t75 := Tryd.underlying197
  a75 := Tryd.isAgg197
  z75 := Tryd.sizeOf197
  v75 := Tryd.zeroValue197
  t76 := Tryd.underlying198
  a76 := Tryd.isAgg198
  z76 := Tryd.sizeOf198
  v76 := Tryd.zeroValue198
  t109 := Tryd.underlying190
  a109 := Tryd.isAgg190
  z109 := Tryd.sizeOf190
  v109 := Tryd.zeroValue190
  t127 := Tryd.underlying213
  a127 := Tryd.isAgg213
  z127 := Tryd.sizeOf213
  v127 := Tryd.zeroValue213
  t146 := Tryd.underlying209
  a146 := Tryd.isAgg209
  z146 := Tryd.sizeOf209
  v146 := Tryd.zeroValue209
  t148 := Tryd.underlying211
  a148 := Tryd.isAgg211
  z148 := Tryd.sizeOf211
  v148 := Tryd.zeroValue211
  t164 := Tryd.underlying215
  a164 := Tryd.isAgg215
  z164 := Tryd.sizeOf215
  v164 := Tryd.zeroValue215 }
theorem Tryd.Builder_Extra_105 : Builder.Extra Tryd.prog Tryd.lays105_ren := {
  sizeBuilder := by kernel_rfl
  liesBuilder := by kernel_rfl
  t5 := Tryd.underlying5
  a5 := Tryd.isAgg5
  z5 := Tryd.sizeOf5
  v5 := Tryd.zeroValue5
  infoByte := by kernel_rfl
  cellsByte := by kernel_rfl
  sizeByte := by kernel_rfl
  neB5 := by decide }
open Go.RowKit Go.Lib in
/-- **strings.Repeat: count ≥ 0, the result within one allocation: count copies of s.** (LAID: no walk: one application.) -/
theorem Tryd.strings_Repeat (s : ByteArray) (c : Nat) (w : World) (hc : c ≤ 9223372036854775807) (hlen : s.size * c ≤ 140737488355328) :
    Calls Tryd.prog 114 #[.string s, .int .i64 c] w fun e w' => e = .returned (.string ⟨(Lib.repeatL s.data.toList c).toArray⟩) ∧ Below w.heap.size w w' := Any.strings_Repeat Tryd.lays105 Tryd.Builder_Extra_105 s c w hc hlen
end Go.Proofs
/- The library's Repeat as an entry of a table; tables over such an entry. -/
namespace Go.Vm
set_option linter.unusedVariables false
set_option linter.unusedSimpArgs false
/-- Four zero bytes. -/
def repT : Tab := fun f vs H => match f, vs with
  | 114, [.s s, .i k n] => if s = [0] ∧ k = .i64 ∧ n = 4 then some (.s [0, 0, 0, 0], H) else none
  | _, _ => none
theorem repT_eq (H : AH) : repT 114 [.s [0], .i .i64 4] H = some (.s [0, 0, 0, 0], H) := rfl
theorem rep_back {ρ : Rn} {H : AH} {w w' : World} {r : Value} {v : AV} (hH : HeapR ρ H w) (hb : Go.RowKit.Below w.heap.size w w') (hv : V2 ρ v r) : Back ρ w v H (.returned r) w' :=
  ⟨ρ, ⟨.refl ρ, fun _ _ => rfl, fun b hb' _ => hb.block b hb', hb.size, hb.os, hb.tape, hb.output⟩, hv,
    hH.of (.refl ρ) rfl rfl hb.size (fun b hb' _ => ⟨rfl, hb.block b hb'⟩) (fun b hb' => hH.bnd b (Nat.le_trans hb.size hb')) fun _ _ h => h⟩
theorem repT_ok : TabOK Go.Proofs.Tryd.prog repT := by
  intro f vs H v H' h
  unfold repT at h
  split at h
  · rename_i s k n
    split at h
    · rename_i hc
      obtain ⟨rfl, rfl, rfl⟩ := hc
      injection h with h
      injection h with h1 h2
      subst h1 h2
      refine ⟨⟨_, Go.Proofs.Tryd.func114, by kernel_rfl, by kernel_rfl⟩, fun ρ w rargs hH hG ha => ?_⟩
      have hl := ha.len
      obtain ⟨l⟩ := rargs
      match l, ha with
      | [x, y], ha =>
        obtain ⟨h1, h2, -⟩ := ha
        have h1 : x = .string ⟨#[0]⟩ := h1
        have h2 : y = .int .i64 4 := h2
        subst h1 h2
        refine (Go.Proofs.Tryd.strings_Repeat ⟨#[0]⟩ 4 w (by decide) (by decide)).mono ?_
        rintro e w' ⟨rfl, hb⟩
        exact rep_back hH hb rfl
    · cases h
  · cases h
/-- Functions by levels over a table. -/
noncomputable def tabE (E : Tab) (l : List (Nat × Fn)) : Nat → Tab
  | 0 => E
  | k + 1 => fun n => match lkF l n with
    | some F => ent (tabE E l k) F
    | none => E n
theorem tabE_at {E : Tab} {l : List (Nat × Fn)} {k n : Nat} {F : Fn} (h : lkF l n = some F) : tabE E l (k + 1) n = ent (tabE E l k) F := by
  show (match lkF l n with
    | some F => ent (tabE E l k) F
    | none => E n) = _
  rw [h]
theorem tabE_no {E : Tab} {l : List (Nat × Fn)} {n : Nat} (h : lkF l n = none) : ∀ k, tabE E l k n = E n
  | 0 => rfl
  | k + 1 => by
    show (match lkF l n with
      | some F => ent (tabE E l k) F
      | none => E n) = _
    rw [h]
theorem tabE_ok {P : Program} {E : Tab} {l : List (Nat × Fn)} (hE : TabOK P E) (hl : AllK P l) (hmx : P.follows .mixedOrders = true) : ∀ k, TabOK P (tabE E l k)
  | 0 => hE
  | k + 1 => fun f vs H v H' h => by
    cases e : lkF l f with
    | none =>
      rw [tabE_no e] at h
      exact hE f vs H v H' h
    | some F =>
      have h1 := ent_ok (tabE_ok hE hl hmx k) hmx (hl.lk e)
      refine h1 f vs H v H' ?_
      unfold Vm.ext
      rw [if_pos rfl, ← tabE_at e]
      exact h
theorem tabE_run {E : Tab} {l : List (Nat × Fn)} {k n : Nat} {F : Fn} {G : AV → AH → Prop} {vs : List AV} {H : AH} (e : lkF l n = some F) (h : Runs (tabE E l k) F vs H G) : ∃ v H', tabE E l (k + 1) n vs H = some (v, H') ∧ G v H' := by
  have := ent_spec (f := n) h
  rw [tabE_at e]
  unfold Vm.ext at this
  simpa using this
theorem tabE_eq {E : Tab} {l : List (Nat × Fn)} {k n : Nat} {F : Fn} {vs : List AV} {H : AH} {r : AV} (e : lkF l n = some F) (h : Runs (tabE E l k) F vs H fun v H' => H' = H ∧ v = r) : tabE E l (k + 1) n vs H = some (r, H) := by
  obtain ⟨v, H', h1, rfl, rfl⟩ := tabE_run e h
  exact h1
end Go.Vm
/- The law of Triage returns true: the table of its functions. -/
namespace Go.Vm
set_option linter.unusedVariables false
set_option linter.unusedSimpArgs false
def fsG : List (Nat × Fn) := [(n_spec_l04In, c_spec_l04In), (n_impl_within, c_impl_within), (n_impl_p16, c_impl_p16), (n_spec_l02Put, c_spec_l02Put), (n_spec_l02Num, c_spec_l02Num), (n_spec_l04Bit, c_spec_l04Bit), (n_spec_DecodeHead, c_spec_DecodeHead), (n_spec_l01Split, c_spec_l01Split), (n_spec_l01Small, c_spec_l01Small), (n_spec_l01Join, c_spec_l01Join), (n_spec_FoldName, c_spec_FoldName), (n_spec_SameName, c_spec_SameName), (n_spec_l09Algorithm, c_spec_l09Algorithm), (n_spec_l02Alnum, c_spec_l02Alnum), (n_spec_l02Text, c_spec_l02Text), (n_spec_l02NameAt, c_spec_l02NameAt), (n_spec_l02Map, c_spec_l02Map), (n_spec_l02Form, c_spec_l02Form), (n_spec_l02Parts, c_spec_l02Parts), (n_spec_CheckData, c_spec_CheckData), (n_spec_l04Pointed, c_spec_l04Pointed), (n_spec_DecodeName, c_spec_DecodeName), (n_spec_l04Data, c_spec_l04Data), (n_spec_l04Record, c_spec_l04Record), (n_spec_l04Read, c_spec_l04Read), (n_spec_Decode, c_spec_Decode), (n_spec_l13Count, c_spec_l13Count), (n_spec_l13Options, c_spec_l13Options), (n_spec_ReadEdns, c_spec_ReadEdns), (n_spec_l09Stray, c_spec_l09Stray), (n_spec_l09Data, c_spec_l09Data), (n_spec_Verify, c_spec_Verify), (n_spec_Triage, c_spec_Triage), (n_impl_u16, c_impl_u16), (n_impl_bit, c_impl_bit), (n_impl_DecodeHead, c_impl_DecodeHead), (n_impl_decoder_take, c_impl_decoder_take), (n_impl_DecodeName, c_impl_DecodeName), (n_impl_decoder_name, c_impl_decoder_name), (n_binary_bigEndian_Uint32, c_binary_bigEndian_Uint32), (n_impl_u32, c_impl_u32), (n_impl_hasPointers, c_impl_hasPointers), (n_impl_nameAt, c_impl_nameAt), (n_impl_parsed_1, c_impl_parsed_1), (n_impl_MapTypes, c_impl_MapTypes), (n_impl_parsed, c_impl_parsed), (n_impl_CheckData, c_impl_CheckData), (n_impl_decoder_record, c_impl_decoder_record), (n_impl_Decode, c_impl_Decode), (n_impl_lastRecord, c_impl_lastRecord), (n_impl_fold, c_impl_fold), (n_impl_Verify, c_impl_Verify), (n_impl_ReadEdns, c_impl_ReadEdns), (n_impl_triaged, c_impl_triaged), (n_impl_Triage, c_impl_Triage), (n_laws_toByteS, c_laws_toByteS), (n_laws_eqByteS, c_laws_eqByteS), (n_laws_FnExactTriage, c_laws_FnExactTriage)]
theorem fsG_ok : AllK Go.Proofs.Tryd.prog fsG := ⟨k_spec_l04In, k_impl_within, k_impl_p16, k_spec_l02Put, k_spec_l02Num, k_spec_l04Bit, k_spec_DecodeHead, k_spec_l01Split, k_spec_l01Small, k_spec_l01Join, k_spec_FoldName, k_spec_SameName, k_spec_l09Algorithm, k_spec_l02Alnum, k_spec_l02Text, k_spec_l02NameAt, k_spec_l02Map, k_spec_l02Form, k_spec_l02Parts, k_spec_CheckData, k_spec_l04Pointed, k_spec_DecodeName, k_spec_l04Data, k_spec_l04Record, k_spec_l04Read, k_spec_Decode, k_spec_l13Count, k_spec_l13Options, k_spec_ReadEdns, k_spec_l09Stray, k_spec_l09Data, k_spec_Verify, k_spec_Triage, k_impl_u16, k_impl_bit, k_impl_DecodeHead, k_impl_decoder_take, k_impl_DecodeName, k_impl_decoder_name, k_binary_bigEndian_Uint32, k_impl_u32, k_impl_hasPointers, k_impl_nameAt, k_impl_parsed_1, k_impl_MapTypes, k_impl_parsed, k_impl_CheckData, k_impl_decoder_record, k_impl_Decode, k_impl_lastRecord, k_impl_fold, k_impl_Verify, k_impl_ReadEdns, k_impl_triaged, k_impl_Triage, k_laws_toByteS, k_laws_eqByteS, k_laws_FnExactTriage, trivial⟩
namespace Gq
section
variable (k : Nat)
theorem q_in : T_in (tabE repT fsG (k + 1)) n_spec_l04In := fun x m H => tabE_eq (F := c_spec_l04In) rfl (r_l04In)
theorem q_within : T_within (tabE repT fsG (k + 1)) n_impl_within := fun x lo m H => tabE_eq (F := c_impl_within) rfl (r_within)
theorem q_p16 : T_p16 (tabE repT fsG (k + 1)) n_impl_p16 := fun n H hn => by
  obtain ⟨v, H', h1, h2, rfl⟩ := tabE_run (E := repT) (n := n_impl_p16) (F := c_impl_p16) (l := fsG) rfl (r_p16 (C := tabE repT fsG k) (H := H) hn)
  exact ⟨H', h1, h2⟩
theorem q_put2 : T_put2 (tabE repT fsG (k + 1)) n_spec_l02Put := fun n H hn => by
  obtain ⟨v, H', h1, h2, rfl⟩ := tabE_run (E := repT) (n := n_spec_l02Put) (F := c_spec_l02Put) (l := fsG) rfl (r_l02Put (C := tabE repT fsG k) (H := H) (n := n) (k := 2) (by omega) (by decide))
  exact ⟨H', h1.trans (by simp [beK, be16]), h2⟩
theorem q_num : T_l02Num (tabE repT fsG (k + 1)) n_spec_l02Num := fun l H hl => by
  obtain ⟨v, H', h1, rfl, rfl⟩ := tabE_run (E := repT) (n := n_spec_l02Num) (F := c_spec_l02Num) (l := fsG) rfl (r_l02Num (C := tabE repT fsG k) (H := H) hl)
  exact h1
theorem q_bitS : T_bitS (tabE repT fsG (k + 1)) n_spec_l04Bit := fun n j H hn hj => tabE_eq (F := c_spec_l04Bit) rfl (r_bitS hn hj)
theorem q_HeadS : T_Head (tabE repT fsG (k + 2)) n_spec_DecodeHead := fun a l H h hc => tabE_run (F := c_spec_DecodeHead) rfl (r_HeadS (q_num (k + 0)) (q_bitS (k + 0)) h hc)
theorem q_split : T_split (tabE repT fsG (k + 1)) n_spec_l01Split := fun s H hs => tabE_run (F := c_spec_l01Split) rfl (r_split hs)
theorem q_lowS : T_low (tabE repT fsG (k + 1)) n_spec_l01Small := fun s H hs => tabE_run (F := c_spec_l01Small) rfl (r_lowS hs)
theorem q_join : T_joinN (tabE repT fsG (k + 1)) n_spec_l01Join := fun a ls H h hn hb => tabE_run (F := c_spec_l01Join) rfl (r_joinN h hn hb)
theorem q_foldN : T_foldN (tabE repT fsG (k + 2)) n_spec_FoldName := fun s H hs => tabE_run (F := c_spec_FoldName) rfl (r_foldN (q_split (k + 0)) (q_lowS (k + 0)) (q_join (k + 0)) hs)
theorem q_same : T_same (tabE repT fsG (k + 3)) n_spec_SameName := fun s t H hs ht => tabE_run (F := c_spec_SameName) rfl (r_same (q_foldN (k + 0)) hs ht)
theorem q_alg : T_alg (tabE repT fsG (k + 2)) n_spec_l09Algorithm := fun H => tabE_run (F := c_spec_l09Algorithm) rfl (r_alg (q_join (k + 0)))
theorem q_alnum : T_alnum (tabE repT fsG (k + 1)) n_spec_l02Alnum := fun c H => tabE_eq (F := c_spec_l02Alnum) rfl (r_alnum)
theorem q_txt : T_txt (tabE repT fsG (k + 1)) n_spec_l02Text := fun s H hs => tabE_eq (F := c_spec_l02Text) rfl (r_txt hs)
theorem q_nmS : T_nmS (tabE repT fsG (k + 1)) n_spec_l02NameAt := fun s H hs => tabE_eq (F := c_spec_l02NameAt) rfl (r_nmS hs)
theorem q_map : T_map (tabE repT fsG (k + 1)) n_spec_l02Map := fun s H hs => tabE_eq (F := c_spec_l02Map) rfl (r_map hs)
theorem q_form : T_form (tabE repT fsG (k + 1)) n_spec_l02Form := fun t H => tabE_eq (F := c_spec_l02Form) rfl (r_form)
theorem q_parts : T_parts (tabE repT fsG (k + 2)) n_spec_l02Parts := fun form d H hf hd => tabE_run (F := c_spec_l02Parts) rfl (r_parts (q_nmS (k + 0)) (q_txt (k + 0)) (q_alnum (k + 0)) (q_map (k + 0)) hf hd)
theorem q_CheckS : T_CheckS (tabE repT fsG (k + 3)) n_spec_CheckData := fun t d H hd => tabE_run (F := c_spec_CheckData) rfl (r_CheckS (q_form (k + 1)) (q_parts (k + 0)) hd)
theorem q_pointed : T_pointed (tabE repT fsG (k + 1)) n_spec_l04Pointed := fun t H => tabE_eq (F := c_spec_l04Pointed) rfl (r_pointed)
theorem q_DNS : T_DecodeName (tabE repT fsG (k + 2)) n_spec_DecodeName := fun a l p H h hc hl hp => tabE_run (F := c_spec_DecodeName) rfl (r_DecodeNameS (q_join (k + 0)) h hc hl hp)
theorem q_l04Data : T_l04Data (tabE repT fsG (k + 4)) n_spec_l04Data := fun a l t p e H h hc hl hp he => tabE_run (F := c_spec_l04Data) rfl (r_l04Data (q_pointed (k + 2)) (q_CheckS (k + 0)) (q_form (k + 2)) (q_DNS (k + 1)) h hc hl hp he)
theorem q_l04Record : T_l04Record (tabE repT fsG (k + 5)) n_spec_l04Record := fun a l p H h hc hl hp => tabE_run (F := c_spec_l04Record) rfl (r_l04Record (q_num (k + 3)) (q_DNS (k + 2)) (q_l04Data (k + 0)) h hc hl hp)
theorem q_l04Read : T_l04Read (tabE repT fsG (k + 6)) n_spec_l04Read := fun a l H h hc hl => tabE_run (F := c_spec_l04Read) rfl (r_l04Read (q_HeadS (k + 3)) (q_DNS (k + 3)) (q_num (k + 4)) (q_l04Record (k + 0)) h hc hl)
theorem q_specDecode : ∀ (a : AV) (l : List UInt8) (H : AH), Byt H a l → Cl H a → l.length ≤ 1099511627776 → ∃ v H', (tabE repT fsG (k + 7)) n_spec_Decode [a] H = some (v, H') ∧ DcPost (msgR l) H v H' := fun a l H h hc hl => tabE_run (F := c_spec_Decode) rfl (r_specDecode (q_l04Read (k + 0)) h hc hl)
theorem q_l13Count : T_l13Count (tabE repT fsG (k + 1)) n_spec_l13Count := fun a xs H h hn => tabE_eq (F := c_spec_l13Count) rfl (r_l13Count h hn)
theorem q_l13Options : T_l13Options (tabE repT fsG (k + 2)) n_spec_l13Options := fun d H hd => tabE_run (F := c_spec_l13Options) rfl (r_l13Options (q_num (k + 0)) hd)
theorem q_rdS : T_RdE (tabE repT fsG (k + 3)) n_spec_ReadEdns := fun q a b c m H h hs => tabE_run (F := c_spec_ReadEdns) rfl (r_spec_ReadEdns (q_l13Count (k + 1)) (q_l13Options (k + 0)) h hs)
theorem q_stray : T_Stray (tabE repT fsG (k + 1)) n_spec_l09Stray := fun q a b c m H h h1 h2 h3 => tabE_eq (F := c_spec_l09Stray) rfl (r_Stray h h1 h2 h3)
theorem q_l09Data : T_l09Data (tabE repT fsG (k + 4)) n_spec_l09Data := fun r H hd => tabE_run (F := c_spec_l09Data) rfl (r_l09Data (q_nmS (k + 2)) (q_alg (k + 1)) (q_same (k + 0)) hd)
theorem q_specVerify : T_Verify (tabE repT fsG (k + 7)) n_spec_Verify := fun a l H h hc hl hF => tabE_run (F := c_spec_Verify) rfl (r_specVerify (q_l04Read (k + 0)) (q_in (k + 5)) (q_stray (k + 5)) (q_l09Data (k + 2)) (q_put2 (k + 5)) h hc hl)
theorem q_specTriage : T_Triage (tabE repT fsG (k + 8)) n_spec_Triage := fun a l H h hc hl hF => tabE_run (F := c_spec_Triage) rfl (r_specTriage (q_HeadS (k + 5)) (q_specDecode (k + 0)) (q_rdS (k + 4)) (q_specVerify (k + 0)) h hc hl hF)
theorem q_u16 : T_u16 (tabE repT fsG (k + 1)) n_impl_u16 := fun d H hd => tabE_eq (F := c_impl_u16) rfl (r_u16 hd)
theorem q_bit : T_bit (tabE repT fsG (k + 1)) n_impl_bit := fun n j H hn hj => tabE_eq (F := c_impl_bit) rfl (r_bit hn hj)
theorem q_HeadI : T_Head (tabE repT fsG (k + 2)) n_impl_DecodeHead := fun a l H h hc => tabE_run (F := c_impl_DecodeHead) rfl (r_HeadI (q_u16 (k + 0)) (q_bit (k + 0)) h hc)
theorem q_take : T_take (tabE repT fsG (k + 1)) n_impl_decoder_take := fun id a l p n code H h hn => tabE_run (F := c_impl_decoder_take) rfl (r_take h hn)
theorem q_DNI : T_DecodeName (tabE repT fsG (k + 1)) n_impl_DecodeName := fun a l p H h hc hl hp => tabE_run (F := c_impl_DecodeName) rfl (r_DecodeNameI h hc hl hp)
theorem q_decName : T_decName (tabE repT fsG (k + 2)) n_impl_decoder_name := fun id a l p H h => tabE_run (F := c_impl_decoder_name) rfl (r_decName (q_DNI (k + 0)) h)
theorem q_Uint32 : T_Uint32 (tabE repT fsG (k + 1)) n_binary_bigEndian_Uint32 := fun x a l H hx h hl => tabE_eq (F := c_binary_bigEndian_Uint32) rfl (r_Uint32 hx h hl)
theorem q_u32 : T_u32 (tabE repT fsG (k + 2)) n_impl_u32 := fun d H hd => tabE_run (F := c_impl_u32) rfl (r_u32 (q_Uint32 (k + 0)) hd)
theorem q_hasP : T_hasP (tabE repT fsG (k + 1)) n_impl_hasPointers := fun t H => tabE_eq (F := c_impl_hasPointers) rfl (r_hasPointers)
theorem q_nmI : T_nmI (tabE repT fsG (k + 1)) n_impl_nameAt := fun s H hs => tabE_eq (F := c_impl_nameAt) rfl (r_nmI hs)
theorem q_rest : T_rest (tabE repT fsG (k + 1)) n_impl_parsed_1 := fun i3 i9 a d H h3 h9 hd => tabE_eq (F := c_impl_parsed_1) rfl (r_rest h3 h9 hd)
theorem q_MapTypes : T_MapTypes (tabE repT fsG (k + 1)) n_impl_MapTypes := fun s H hs => tabE_run (F := c_impl_MapTypes) rfl (r_MapTypes hs)
theorem q_parsed : T_parsed (tabE repT fsG (k + 2)) n_impl_parsed := fun t d H hF hd => tabE_run (F := c_impl_parsed) rfl (r_parsed (q_rest (k + 0)) (q_nmI (k + 0)) (q_MapTypes (k + 0)) hF hd)
theorem q_CheckI : T_CheckI (tabE repT fsG (k + 3)) n_impl_CheckData := fun t d H hF hd => tabE_run (F := c_impl_CheckData) rfl (r_CheckI (q_parsed (k + 0)) hF hd)
theorem q_decRec : T_decRec (tabE repT fsG (k + 4)) n_impl_decoder_record := fun id a l p H h hF => tabE_run (F := c_impl_decoder_record) rfl (r_decRec (q_decName (k + 1)) (q_take (k + 2)) (q_u16 (k + 2)) (q_u32 (k + 1)) (q_hasP (k + 2)) (q_CheckI (k + 0)) h hF)
theorem q_Decode : T_Decode (tabE repT fsG (k + 5)) n_impl_Decode := fun a l H h hc hl hF => tabE_run (F := c_impl_Decode) rfl (r_Decode (q_HeadI (k + 2)) (q_decName (k + 2)) (q_take (k + 3)) (q_u16 (k + 3)) (q_decRec (k + 0)) h hc hF)
theorem q_lastRec : T_lastRec (tabE repT fsG (k + 5)) n_impl_lastRecord := fun a l m la H h hc hm hF => tabE_run (F := c_impl_lastRecord) rfl (r_lastRec (q_HeadI (k + 2)) (q_decName (k + 2)) (q_take (k + 3)) (q_decRec (k + 0)) h hc hm hF)
theorem q_fold : T_low (tabE repT fsG (k + 1)) n_impl_fold := fun s H hs => tabE_run (F := c_impl_fold) rfl (r_fold hs)
theorem q_rep (j : Nat) : ∀ H, tabE repT fsG j 114 [.s [0], .i .i64 4] H = some (.s [0, 0, 0, 0], H) := fun H => by rw [tabE_no rfl]; exact repT_eq H
theorem q_implVerify : T_Verify (tabE repT fsG (k + 6)) n_impl_Verify := fun a l H h hc hl hF => tabE_run (F := c_impl_Verify) rfl (r_implVerify (q_Decode (k + 0)) (q_within (k + 4)) (q_fold (k + 4)) (q_rep (k + 5)) (q_lastRec (k + 0)) (q_u16 (k + 4)) (q_p16 (k + 4)) h hc hl hF)
theorem q_rdI : T_RdE (tabE repT fsG (k + 2)) n_impl_ReadEdns := fun q a b c m H h hs => tabE_run (F := c_impl_ReadEdns) rfl (r_impl_ReadEdns (q_u16 (k + 0)) h hs)
theorem q_triaged : T_triaged (tabE repT fsG (k + 7)) n_impl_triaged := fun a l H h hc hl hF => tabE_run (F := c_impl_triaged) rfl (r_triaged (q_HeadI (k + 4)) (q_Decode (k + 1)) (q_rdI (k + 4)) (q_implVerify (k + 0)) h hc hl hF)
theorem q_implTriage : T_Triage (tabE repT fsG (k + 8)) n_impl_Triage := fun a l H h hc hl hF => tabE_run (F := c_impl_Triage) rfl (r_implTriage (q_triaged (k + 0)) h hc hl hF)
theorem q_copyB : T_copyB (tabE repT fsG (k + 1)) n_laws_toByteS := fun a l H h hl => tabE_run (F := c_laws_toByteS) rfl (r_copyB h hl)
theorem q_sameB : T_sameB (tabE repT fsG (k + 1)) n_laws_eqByteS := fun a b l H h h2 hl => tabE_eq (F := c_laws_eqByteS) rfl (r_sameB h h2 hl)
theorem law {a : AV} {l : List UInt8} {H : AH} (h : Byt H a l) (hF : FormsOK H) : ∃ H', tabE repT fsG 9 n_laws_FnExactTriage [a] H = some (.b true, H') := by
  obtain ⟨v, H', h1, rfl⟩ := tabE_run (E := repT) (n := n_laws_FnExactTriage) (F := c_laws_FnExactTriage) (l := fsG) rfl (r_law_Triage (C := tabE repT fsG 8) (q_copyB 7) (q_sameB 7) (q_specTriage 0) (q_implTriage 0) h hF)
  exact ⟨H', h1⟩
theorem law_ok : TabOK Go.Proofs.Tryd.prog (tabE repT fsG 9) := tabE_ok repT_ok fsG_ok mixed 9
end
end Gq
end Go.Vm
/- The program's table of forms, as a row finds it: a map in some order. -/
namespace Go.Vm
set_option linter.unusedVariables false
set_option linter.unusedSimpArgs false
open Go.ChangeShapes Go.WideShapes Go.ChangeAt Go.RowKit Go.WideElems
def formsD {H : Type} : List (Lit × DataW H) := formsL.map fun e => (.int .i64 e.1, .lit (.string e.2))
theorem gForms_at : Go.Proofs.Tryd.prog.globalNamed "loop.example/s01858/impl.forms" = some 1 := by kernel_rfl
theorem tForms_at : (Go.Proofs.Tryd.prog.globals[1]?).map (·.type) = some 179 := by kernel_rfl
theorem formsEs_fun : ∀ e e', e ∈ formsEs → e' ∈ formsEs → e.1.toI = e'.1.toI → e.2 = e'.2 := by
  intro e e' h h' hh
  have : ∀ e ∈ formsEs, ∀ e' ∈ formsEs, e.1.toI = e'.1.toI → e.2 = e'.2 := by
    intro e he e' he' 
    simp only [formsEs, formsL, List.map_cons, List.map_nil, List.mem_cons, List.not_mem_nil, or_false] at he he'
    rcases he with rfl | rfl | rfl | rfl | rfl | rfl | rfl | rfl | rfl | rfl | rfl | rfl | rfl | rfl <;>
    rcases he' with rfl | rfl | rfl | rfl | rfl | rfl | rfl | rfl | rfl | rfl | rfl | rfl | rfl | rfl <;>
    first | exact fun _ => rfl | (intro h; exact absurd h (by decide))
  exact this e h e' h' hh
theorem forms_open {Hh : Type} {enc : TypeId × Value → Hh} {W : World} {sp : Nat → Bool} {held : Bool} {fuel : Nat} {cs : List Value} {p : List MemPlace}
    (hd : DataW.trod enc Go.Proofs.Tryd.prog W 0 sp held fuel 179 cs = some (.map formsD, p)) :
    ∃ b es clk, cs = [.map (some b)] ∧ W.heap[b]? = some (.map es clk) ∧ ∃ ls : List (AV × AV), (∀ ρ, All2 (EntR ρ) ls es.toList) ∧ (∀ e, e ∈ ls → e ∈ formsEs) ∧ (∀ e, e ∈ formsEs → e ∈ ls) := by
  rcases open_map Go.Proofs.Tryd.underlying179 hd with ⟨_, hx⟩ | ⟨b, es, clk, m, rfl, rfl, hb, _, F, hx⟩
  · cases hx
  simp only [Prod.mk.injEq, DataW.map.injEq] at hx
  have hmem : ∀ y, y ∈ es.toList.map (rg Go.Proofs.Tryd.prog 2 (elemAt enc Go.Proofs.Tryd.prog W 0 sp held m 9)) ↔ y ∈ formsD := fun y => by rw [hx.1]; exact Go.mem_sorted.symm
  have one : ∀ x, x ∈ es.toList → ∃ e, e ∈ formsL ∧ rg Go.Proofs.Tryd.prog 2 (elemAt enc Go.Proofs.Tryd.prog W 0 sp held m 9) x = (.int .i64 e.1, .lit (.string e.2)) ∧ x.key = .int .i64 e.1 ∧ x.val = .string ⟨e.2.toArray⟩ := by
    intro x hxe
    obtain ⟨y, hy⟩ := F.reads x hxe
    have hrg := rg_of hy
    have := (hmem y).1 (hrg ▸ List.mem_map_of_mem hxe)
    obtain ⟨e, he, rfl⟩ := List.mem_map.1 this
    have hk := rd_key hy
    obtain ⟨z, hz, hz2⟩ := rd_val hy
    refine ⟨e, he, hrg, ?_, ?_⟩
    · unfold keyOf at hk
      rw [Go.Proofs.Tryd.underlying2] at hk
      simp only at hk
      unfold mapKey at hk
      rw [Go.Proofs.Tryd.underlying2] at hk
      generalize x.key = kv at hk
      cases kv <;> simp at hk
      obtain ⟨⟨rfl, -⟩, rfl⟩ := hk
      rfl
    · unfold elemAt at hz
      split at hz
      · rename_i hf
        obtain ⟨s, hs, hs2, -⟩ := DataW.trod_string Go.Proofs.Tryd.underlying9 hz
        subst hs2
        have hv : x.val = .string s := by
          generalize x.val = v at hs hf
          cases v <;> simp [Value.formed, Go.Proofs.Tryd.underlying9, Value.cells] at hf hs
          subst hs; rfl
        simp only [DataW.lit.injEq, Lit.string.injEq] at hz2
        rw [hv, hz2]
      · cases hz
  let φ : MapEntry → AV × AV := fun x => (.i .i64 (match x.key with | .int _ n => n | _ => 0), .s (match x.val with | .string s => s.data.toList | _ => []))
  have hφ : ∀ x, x ∈ es.toList → ∃ e, e ∈ formsL ∧ rg Go.Proofs.Tryd.prog 2 (elemAt enc Go.Proofs.Tryd.prog W 0 sp held m 9) x = (.int .i64 e.1, .lit (.string e.2)) ∧ φ x = (.i .i64 e.1, .s e.2) ∧ ∀ ρ, EntR ρ (φ x) x := by
    intro x hxe
    obtain ⟨e, h1, h2, h3, h4⟩ := one x hxe
    have hp : φ x = (.i .i64 e.1, .s e.2) := by simp only [φ, h3, h4]
    refine ⟨e, h1, h2, hp, fun ρ => ?_⟩
    rw [hp]
    exact ⟨(show x.key = _ from h3), (show x.val = _ from h4)⟩
  refine ⟨b, es, clk, rfl, hb, es.toList.map φ, fun ρ => ?_, fun e he => ?_, fun e he => ?_⟩
  · rw [All2.map]
    have : ∀ l : List MapEntry, (∀ x, x ∈ l → x ∈ es.toList) → All2 (fun x y => EntR ρ (φ x) y) l l := by
      intro l
      induction l with
      | nil => intro _; trivial
      | cons x l ih =>
        intro h
        obtain ⟨e, -, -, -, h4⟩ := hφ x (h x (by simp))
        exact ⟨h4 ρ, ih fun y hy => h y (by simp [hy])⟩
    exact this _ fun x hx => hx
  · obtain ⟨x, hxe, rfl⟩ := List.mem_map.1 he
    obtain ⟨e, h1, -, h3, -⟩ := hφ x hxe
    rw [h3]
    exact List.mem_map.2 ⟨e, h1, rfl⟩
  · obtain ⟨e0, h0, rfl⟩ := List.mem_map.1 he
    have : ((.int .i64 e0.1, .lit (.string e0.2)) : Lit × DataW Hh) ∈ formsD := List.mem_map.2 ⟨e0, h0, rfl⟩
    obtain ⟨x, hxe, hrx⟩ := List.mem_map.1 ((hmem _).2 this)
    obtain ⟨e, h1, h2, h3, -⟩ := hφ x hxe
    rw [hrx] at h2
    simp only [Prod.mk.injEq, Lit.int.injEq, DataW.lit.injEq, Lit.string.injEq, true_and] at h2
    refine List.mem_map.2 ⟨x, hxe, ?_⟩
    rw [h3, h2.1, h2.2]
end Go.Vm
/- A row's named variables read as they did; the first heap where the table of forms is the first of what is laid. -/
namespace Go.Vm
set_option linter.unusedVariables false
set_option linter.unusedSimpArgs false
open Go.ChangeShapes Go.WideShapes Go.ChangeAt Go.RowKit Go.WideElems
def rowed (P : Program) (ns : List String) : Bool := ns.all fun n => ((P.globalNamed n).bind (P.globals[·]?)).all fun gl => P.readableRec gl.type && decide (gl.type < P.types.size)
theorem varsStay {H : Type} {enc : TypeId × Value → H} {P : Program} (hl : laidOutB P = true) {W W' : World} (hb : Below W.heap.size W W') {sp : Nat → Bool} :
    ∀ {ns : List String} {gs : List (DataW H)} {ps : List MemPlace}, rowed P ns = true → DataW.TrodVars enc P W (fun _ => true) ns gs ps → (∀ x, x ∈ ps → x.block < W.heap.size) → (∀ x, x ∈ ps → sp x.block = true) → DataW.TrodVars enc P W' sp ns gs ps
  | [], [], _, _, h, _, _ => h
  | [], _ :: _, _, _, h, _, _ => h.elim
  | _ :: _, [], _, _, h, _, _ => h.elim
  | n :: ns, d :: ds, ps, hv, h, hlt, hsp => by
    obtain ⟨g, t, cs, fuel, p, q, h1, h2, h3, h4, hs, e⟩ := h
    simp only [rowed, List.all_cons, Bool.and_eq_true] at hv
    have ht : P.readableRec t = true ∧ t < P.types.size := by
      have := hv.1
      rw [h1] at this
      cases hg : P.globals[g]? with
      | none => rw [hg] at h2; cases h2
      | some gl =>
        rw [hg] at h2
        obtain rfl : gl.type = t := Option.some.inj h2
        simpa [hg] using this
    have hp : ∀ x, x ∈ p → x ∈ ps := fun x hx => by rw [e]; simp [hx]
    have hq : ∀ x, x ∈ q → x ∈ ps := fun x hx => by rw [e]; simp [hx]
    have h3' : W'.var? P n = some cs := by
      unfold World.var? at h3 ⊢
      rw [h1] at h3 ⊢
      simp only [Option.bind_some] at h3 ⊢
      have hg : g < W.heap.size := by
        cases hh : W.heap[g]? with
        | none => rw [hh] at h3; cases h3
        | some o => exact (Array.getElem?_eq_some_iff.1 hh).1
      rw [hb.block g hg]; exact h3
    exact ⟨g, t, cs, fuel, p, q, h1, h2, h3', DataW.trod_stays (kids_book hl ht.1) (book_sized ht.1) (fun h => by cases h) ⟨ht.2, book_self t⟩ h4 (fun x hx => hb.same (hlt x (hp x hx))) (fun x hx => hsp x (hp x hx)),
      varsStay hl hb (by simpa [rowed] using hv.2) hs (fun x hx => hlt x (hq x hx)) (fun x hx => hsp x (hq x hx)), e⟩
/-- The first heap: the table's variable, and the table, whatever else is laid. -/
theorem forms_first2 {laid more : List (String × DataW Unit)} {W : World} (hl : laid = ("loop.example/s01858/impl.forms", .map formsD) :: more) (hp : (laid.all fun x => x.2.handleName?.isNone) = true) (hL : laidMetH Go.Proofs.Tryd.prog laid W) :
    ∃ ρ H, Fst Go.Proofs.Tryd.prog ρ H W ∧ FormsOK H := by
  rw [MakeChecks.laidMetH_plain _ _ _ hp] at hL
  subst hl
  obtain ⟨ps, ⟨g, t, cs, f0, p0, q0, hg, ht, hv, hd, _, _⟩, _, _⟩ := hL
  obtain rfl := Option.some.inj (gForms_at.symm.trans hg)
  obtain rfl := Option.some.inj (tForms_at.symm.trans ht)
  obtain ⟨b, es, clk, hcs, hb, ls, h1, h2, h3⟩ := forms_open hd
  obtain ⟨ty, fz, hg1⟩ : ∃ ty fz, W.heap[1]? = some (.cells cs ty fz) := by
    unfold World.var? at hv
    rw [hg] at hv
    simp only [Option.bind_some] at hv
    split at hv
    · rename_i c ty fz hc
      cases hv
      exact ⟨ty, fz, hc⟩
    · cases hv
  have hG : 1 < Go.Proofs.Tryd.prog.globals.size := by
    cases h : Go.Proofs.Tryd.prog.globals[1]? with
    | none => rw [h] at ht; cases ht
    | some x => exact (Array.getElem?_eq_some_iff.1 h).1
  obtain ⟨F1, le1⟩ := (Fst.first1 (P := Go.Proofs.Tryd.prog) (w := W) fun _ => cs.size).map hb (h1 _)
  obtain ⟨F2, le2⟩ := F1.glob1 (g := 1) (x := .mp Go.Proofs.Tryd.prog.globals.size) (show 1 < Go.Proofs.Tryd.prog.globals.size + 1 by omega) (by simp only [Rn.addO, rn1]; rw [if_pos hG]) hg1 hcs ⟨b, by simp [Rn.addO], rfl⟩
  refine ⟨_, _, F2, ⟨false, Go.Proofs.Tryd.prog.globals.size, ls, set_at, ?_, (show 1 < Go.Proofs.Tryd.prog.globals.size + 1 by omega), (show Go.Proofs.Tryd.prog.globals.size < Go.Proofs.Tryd.prog.globals.size + 1 by omega), fun e he => ?_, fun t => ?_⟩⟩
  · rw [set_ne (by omega)]
    exact new_at (H := ⟨Go.Proofs.Tryd.prog.globals.size, fun _ => .no⟩)
  · obtain ⟨e0, -, rfl⟩ := List.mem_map.1 (h2 e he)
    rfl
  · refine mpFind_same h2 h3 fun e e' he he' hk hk' => formsEs_fun e e' he he' ?_
    obtain ⟨e0, -, rfl⟩ := List.mem_map.1 he
    obtain ⟨e1, -, rfl⟩ := List.mem_map.1 he'
    simp only [AV.cells, cellsEq, cellEq, Bool.and_true, decide_eq_true_eq] at hk hk'
    simp only [AV.toI]
    omega
end Go.Vm
/- The law of Triage returns true whatever its argument, and leaves it and the named variables as they were. -/
namespace Go.Proofs.YtfamnghjibckbaaDoor
open Go.ChangeShapes Go.WideShapes Go.ChangeAt Go.RowKit
namespace fnExactTriage
theorem own : ownKnob Tryd.prog.godebug = none := by kernel_rfl
theorem laidOut : laidOutB Tryd.prog = true := by kernel_rfl
set_option maxRecDepth 100000 in
theorem contract (H : Type) (enc : TypeId × Value → H) (W : World) (base : Nat) (args : Array Value) (ds gs : List (DataW H)) (before : List MemPlace)
    (hval : ∀ (j : Nat) t v, Tryd.f5.params[j]? = some t → args[j]? = some v → Value.okWide Tryd.prog W .any base t v)
    (hW : DataW.Whole enc Tryd.prog Tryd.f5.params.toList Rows.fnExactTriageSpec.vars false W args.toList ds gs before) (hL : laidMetH Tryd.prog Rows.fnExactTriageRow.laid W) :
    Calls Tryd.prog 5 args W fun e W' => ∃ v, e = .returned v ∧ Rows.fnExactTriageSpec.post enc Tryd.prog Tryd.f5 false true false false W args v W' := by
  have hW' := hW
  obtain ⟨p, q, hA0, hV0, rfl, hfz, hnd⟩ := hW
  have hA : DataW.TrodAll enc Tryd.prog W 0 (fun _ => true) true Tryd.f5.params.toList args.toList ds p := hA0
  have hV : DataW.TrodVars enc Tryd.prog W (fun _ => true) ["loop.example/s01858/impl.forms", "loop.example/s01858/impl.shaK"] gs q := hV0
  rw [Tryd.params5] at hA hval
  obtain ⟨v0, d0, hargs, rfl, h0⟩ := trodAll_one hA
  obtain ⟨rfl⟩ : args = #[v0] := by cases args; simp_all
  obtain ⟨g0, t0, cs0, fu0, d0', p0', g1, t1, cs1, fu1, d1', p1', rfl, -⟩ := trodVars_two hV
  obtain ⟨ρ0, H0, F0, hF0⟩ := Vm.forms_first2 rfl (by kernel_rfl) hL
  obtain ⟨ρ, Hh, a, l, F, le, e1, r1, b1⟩ := F0.bytes Tryd.underlying22 Tryd.underlying5 (by kernel_rfl) (hval 0 22 v0 rfl rfl) h0
  obtain ⟨H', hlaw⟩ := Vm.Gq.law b1 (hF0.ext e1)
  have hcall := (Vm.Gq.law_ok _ _ _ _ _ hlaw).2 ρ W #[v0] F.heap F.glob ⟨r1, trivial⟩
  refine hcall.mono fun e W' hR => ?_
  cases e with
  | panicked _ => exact hR.elim
  | outgrown => exact hR.elim
  | returned r =>
    obtain ⟨ρ', hs, hv, -⟩ := hR
    have hr : r = .bool true := hv
    subst hr
    have hb := hs.below F
    have hlt := hW'.lt
    refine ⟨_, rfl, Vm.post_below (pa := p) (pv := q) hW' (fun _ _ _ => trodAll_mk1 (shut_bool Tryd.underlying4 _)) (fun sp hsp => ?_) (fun sp hsp => ?_) rfl hb (ok_one (by kernel_rfl) rfl (okWide_bool_mk Tryd.underlying4 _))⟩
    · refine Vm.trodAll_stays laidOut hb (fun t ht => ?_) hA0 (fun x hx => hlt x (List.mem_append_left _ hx)) (fun x hx => hsp x (List.mem_append_left _ hx))
      rw [Tryd.params5] at ht
      have : t = 22 := by simpa using ht
      subst this
      exact ⟨by kernel_rfl, of_decide_eq_true (by kernel_rfl)⟩
    · exact Vm.varsStay laidOut hb (by kernel_rfl) hV (fun x hx => hlt x (List.mem_append_right _ hx)) (fun x hx => hsp x (List.mem_append_right _ hx))
/-- The door's own heap meets the condition. -/
theorem door_met (os : Os) (args : Array Value) : laidMetH Tryd.prog Rows.fnExactTriageRow.laid ((World.doorLaid Tryd.prog 400 os).forCall (fun _ _ => 0) ⟨#[], args, []⟩).memory :=
  laidMetH_of_parts3 (fuel := 8) (laidMet_of_run' 8 (by kernel_rfl) (by kernel_rfl)) (by kernel_rfl) (by kernel_rfl)
set_option maxRecDepth 100000 in
theorem lifted (os : Os) (started : os.Started) (H : Type) (enc : TypeId × Value → H) :
    ReturnsInHanded {} Tryd.checked os 5 .any (fun w args => (Rows.fnExactTriageSpec.pre enc Tryd.prog Tryd.f5 [] false w args ∧ laidMetH Tryd.prog Rows.fnExactTriageRow.laid w) ∧ sizedMet enc Tryd.prog Tryd.f5 (OpenSpec.ofChange Rows.fnExactTriageSpec) false w args)
      (Rows.fnExactTriageSpec.post enc Tryd.prog Tryd.f5 false true false false) := by
  refine returnsInHanded_of_change_and (C := Tryd.checked) (X := fun w _ => laidMetH Tryd.prog Rows.fnExactTriageRow.laid w) (fun _ _ _ hh h => h.of_heap hh) own started (by kernel_rfl) Tryd.func5
    (ChangeSpec.witness_shaped (enc := enc) (C := Tryd.checked) (os := os) (X := fun w _ => laidMetH Tryd.prog Rows.fnExactTriageRow.laid w) false (World.doorLaid Tryd.prog 400 os) #[.slice none 0 0] 8 rfl (World.shaped_of_RefB (by kernel_rfl) (by kernel_rfl)) (by kernel_rfl) (by kernel_rfl) (by kernel_rfl) (door_met os _)) ?_
  intro W base args ds gs before hval hW _ _ hL _
  exact contract H enc W base args ds gs before hval hW hL
theorem said : Rows.FnExactTriageSaid :=
  OpenClaim.holds_of_wide 5 Tryd.f5 rfl rfl rfl rfl rfl rfl rfl ⟨rfl, rfl, rfl, rfl, rfl⟩ rfl rfl rfl rfl rfl (by kernel_rfl) Tryd.func5 (by kernel_rfl)
    (of_decide_eq_true (by kernel_rfl)) (by unfold Func.isWrapper; first | (rw [if_pos (by decide +kernel)]; kernel_rfl) | (rw [if_neg (by decide +kernel)]; exact ⟨rfl, rfl⟩))
    (fun os started H enc _ => lifted os started H enc)
theorem proved : Rows.FnExactTriageCardSaid :=
  Claim7.holds_tied_plain_at .later [] [.mapped, .data] true (true, "13f9e3eae6e9af9a5c580f949ac881abfaab5008fc39d082f2d373462b7b5f27") false
    said (fun _ h => by cases h) (by kernel_rfl) (fun _ h => by cases h) fnExactTriage_row_tie rfl ⟨rfl, rfl⟩ (by kernel_rfl) rfl
    (fun f fn hf hfn => by
      obtain rfl : f = 5 := Option.some.inj ((show Tryd.prog.funcNamed "loop.example/s01858/laws.FnExactTriage" = some 5 by kernel_rfl).symm.trans hf) |>.symm
      obtain rfl : fn = Tryd.f5 := (Option.some.inj (Tryd.func5.symm.trans hfn)).symm
      exact ⟨by kernel_rfl, fun j t ht => by
        rw [Tryd.params5] at ht
        have hm : t ∈ [22] := by simpa using Array.mem_of_getElem? ht
        have hall : ([22].all fun u => !Tryd.prog.wantsStandIn u) = true := by kernel_rfl
        exact (show Tryd.prog.wantsStandIn t = false by simpa using List.all_eq_true.1 hall t hm)⟩)
    (by kernel_rfl)
end fnExactTriage
end Go.Proofs.YtfamnghjibckbaaDoor
