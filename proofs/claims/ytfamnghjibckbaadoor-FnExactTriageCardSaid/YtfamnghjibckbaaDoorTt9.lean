import Derived.Test.YtfamnghjibckbaaDoorTt3
import Derived.Test.YtfamnghjibckbaaDoorTt8
/- Messages read: the program's reader of records. -/
namespace Go.Vm
set_option linter.unusedVariables false
set_option linter.unusedSimpArgs false
def RecPost (r : Except Int (Rr × Nat)) (id : Nat) (a : AV) (l : List UInt8) (H : AH) (v : AV) (H' : AH) : Prop := Kp [id] H H' ∧ match r with
  | .error c => v = eR.v zr ∧ ∃ p, Dec H' id a l p c
  | .ok (r, q) => v = eR.v r ∧ Dec H' id a l q 0
def T_decRec (C : Tab) (f : Nat) : Prop := ∀ (id : Nat) (a : AV) (l : List UInt8) (p : Nat) (H : AH), Dec H id a l p 0 → FormsOK H → ∃ v H', C f [.pv id 0] H = some (v, H') ∧ RecPost (recR l p) id a l H v H'
section
variable {C : Tab}
/-- The four numbers ahead of the data. -/
theorem take4 {id : Nat} {a : AV} {l : List UInt8} {q : Nat} {c : Int} {H : AH} (hT : T_take C n_impl_decoder_take) (hW : T_u32 C n_impl_u32) (h : Dec H id a l q c) :
    ∃ T1 T2 T3 T4 H1 H2 H3 H4 H5 p4 c4, C n_impl_decoder_take [.pv id 0, .i .i64 2] H = some (.s T1, H1) ∧ C n_impl_decoder_take [.pv id 0, .i .i64 2] H1 = some (.s T2, H2) ∧ C n_impl_decoder_take [.pv id 0, .i .i64 4] H2 = some (.s T3, H3) ∧
      C n_impl_u32 [.s T3] H3 = some (.i .i64 (num (T3.take 4) 0 : Nat), H4) ∧ C n_impl_decoder_take [.pv id 0, .i .i64 2] H4 = some (.s T4, H5) ∧ T1.length = 2 ∧ T2.length = 2 ∧ T3.length = 4 ∧ T4.length = 2 ∧ Dec H5 id a l p4 c4 ∧ Kp [id] H H5 ∧ (c ≠ 0 → c4 = c) ∧
      (c = 0 → l.length < q + 10 → c4 = 8) ∧ (c = 0 → q + 10 ≤ l.length → c4 = 0 ∧ p4 = q + 10 ∧ T1 = (l.drop q).take 2 ∧ T2 = (l.drop (q + 2)).take 2 ∧ T3 = (l.drop (q + 4)).take 4 ∧ T4 = (l.drop (q + 8)).take 2) := by
  obtain ⟨v1, H1, k1, rfl, d1, f1⟩ := hT id a l q 2 c H h (by omega)
  obtain ⟨v2, H2, k2, rfl, d2, f2⟩ := hT id a l _ 2 _ H1 d1 (by omega)
  obtain ⟨v3, H3, k3, rfl, d3, f3⟩ := hT id a l _ 4 _ H2 d2 (by omega)
  obtain ⟨v4, H4, k4, rfl, e4⟩ := hW _ H3 (Nat.le_of_eq (takeR_len ..).symm)
  obtain ⟨v5, H5, k5, rfl, d5, f5⟩ := hT id a l _ 2 _ H4 (d3.ext e4) (by omega)
  refine ⟨_, _, _, _, H1, H2, H3, H4, H5, _, _, k1, k2, k3, k4, k5, takeR_len .., takeR_len .., takeR_len .., takeR_len .., d5, (((f1.trans f2).trans f3).trans (.ext e4)).trans f5, fun hc => ?_, fun hc hl => ?_, fun hc hl => ?_⟩
  · have b1 := takeR_bad (l := l) (p := q) (n := 2) hc
    rw [b1]
    have b2 := takeR_bad (l := l) (p := q) (n := 2) hc
    rw [b2]
    have b3 := takeR_bad (l := l) (p := q) (n := 4) hc
    rw [b3, b1]
  · subst hc
    have n8 : (8 : Int) ≠ 0 := by decide
    by_cases g1 : l.length < q + 2
    · rw [takeR_far g1, takeR_bad n8, takeR_bad n8, takeR_bad n8]
    · rw [takeR_ok (by omega : q + 2 ≤ l.length)]
      by_cases g2 : l.length < q + 2 + 2
      · rw [takeR_far g2, takeR_bad n8, takeR_bad n8]
      · rw [takeR_ok (by omega : q + 2 + 2 ≤ l.length)]
        by_cases g3 : l.length < q + 2 + 2 + 4
        · rw [takeR_far g3, takeR_bad n8]
        · rw [takeR_ok (by omega : q + 2 + 2 + 4 ≤ l.length), takeR_far (by omega : l.length < q + 2 + 2 + 4 + 2)]
  · subst hc
    rw [takeR_ok (by omega : q + 2 ≤ l.length), takeR_ok (by omega : q + 2 + 2 ≤ l.length), takeR_ok (by omega : q + 2 + 2 + 4 ≤ l.length), takeR_ok (by omega : q + 2 + 2 + 4 + 2 ≤ l.length)]
    exact ⟨rfl, rfl, rfl, rfl, rfl, rfl⟩
theorem ptI_ln {l : List UInt8} {e : Nat} : ∀ {k p : Nat} {out o : List UInt8} {q : Nat}, ptI l e k p out = .ok (o, q) → o.length ≤ out.length + 255 * k
  | 0, p, out, o, q, h => by
    rw [ptI] at h
    injection h with h
    injection h with h h'
    subst h h'
    omega
  | k + 1, p, out, o, q, h => by
    rw [ptI] at h
    cases hd : dn l p p none [] with
    | error c => rw [hd] at h; cases h
    | ok r =>
      obtain ⟨s, q1⟩ := r
      rw [hd] at h
      simp only at h
      by_cases h2 : e < q1
      · rw [if_pos h2] at h; cases h
      · rw [if_neg h2] at h
        have := ptI_ln h
        have := (dn_name hd).2.1
        rw [List.length_append] at *
        omega
theorem ptI_len {l out o : List UInt8} {e k p p' q n L : Nat} (h : (if n < L then Except.error 7 else ptI l e k p ((out.drop p').take L)) = .ok (o, q)) : o.length ≤ L + 255 * k := by
  split at h
  · cases h
  · have := ptI_ln h
    rw [List.length_take] at this
    omega
/-- Data with pointers: the part behind the choice of its form. -/
def ptBlk : S := sAt c_impl_decoder_record.s [1, 1, 1, 1, 1, 1, 1, 1, 1, 1, 0, 1, 4, 1, 1, 1]
set_option maxRecDepth 100000 in
set_option maxHeartbeats 2000000 in
theorem r_pt {id : Nat} {a : AV} {l : List UInt8} {p n K L g : Nat} {s : List UInt8} {ty cls ttl : Int} {H : AH} {e : Env} {κ : Kont} (hN : T_decName C n_impl_decoder_name) (hT : T_take C n_impl_decoder_take) (h : Dec H id a l p 0) (hn : p + n ≤ l.length) (hK : K ≤ 2) (hL2 : L ≤ 2)
    (q0 : look e 0 = .pv id 0) (q2 : look e 2 = .la 2 0 0 0) (q3 : look e 3 = .la 3 1 0 0) (q4 : look e 4 = .i .i64 n) (q5 : look e 5 = .i .i64 (p + n : Nat)) (q6 : look e 6 = .i .i64 K) (q7 : look e 7 = .i .i64 L)
    (hrt : ∀ e' g' H' c p' d, (if n < L then Except.error 7 else ptI l (p + n) K (p + L) ((l.drop p).take L)) = .error c → Dec H' id a l p' c → Kp [id] H H' → look e' 2 = .la 2 0 0 0 → κ .rt e' ⟨[⟨3, 1, 0, [.ag [.s s, .i .i64 ty, .i .i64 cls, .i .i64 ttl, .s d]]⟩, ⟨2, 0, 0, [eR.v zr]⟩], g', H'⟩)
    (hnx : ∀ e' g' H' o q, (if n < L then Except.error 7 else ptI l (p + n) K (p + L) ((l.drop p).take L)) = .ok (o, q) → Dec H' id a l (p + n) 0 → Kp [id] H H' → look e' 0 = .pv id 0 → look e' 2 = .la 2 0 0 0 → look e' 3 = .la 3 1 0 0 →
      κ .nx e' ⟨[⟨3, 1, 0, [.ag [.s s, .i .i64 ty, .i .i64 cls, .i .i64 ttl, .s (o ++ (l.drop q).take (p + n - q))]]⟩, ⟨2, 0, 0, [eR.v zr]⟩], g', H'⟩) :
    exec C ptBlk e ⟨[⟨3, 1, 0, [.ag [.s s, .i .i64 ty, .i .i64 cls, .i .i64 ttl, .s []]]⟩, ⟨2, 0, 0, [eR.v zr]⟩], g, H⟩ κ := by
  simp only [eR, Enc.v, zr] at hrt hnx ⊢
  unfold ptBlk c_impl_decoder_record
  simp only [sAt]
  by_cases h1 : n < L
  · rw [if_pos h1] at hrt
    have h1' : (n : Int) < (L : Int) := by omega
    obtain ⟨s1, H6, s2, s3, s4⟩ := h.st.2 7
    simp -implicitDefEqProofs only [bU, reduceIte, Nat.reduceEqDiff, reduceCtorEq, implies_true, forall_const, eq_self, Nat.reduceAdd, Nat.reduceLT, bne_self_eq_false, bT, eq_self, true_implies, false_implies, forall_const, if_true, if_false, Int.reduceToNat, Nat.reduceSub, Int.reduceLE, bV, Nat.reduceAdd, Nat.reduceLT, Nat.reduceLeDiff, Nat.reduceLeDiff, pv_faC, pv_faV, q0, q2, q3, q4, q5, q6, q7, h1', s1, s2]
    exact hrt _ _ _ 7 p [] rfl s3 s4 q2
  rw [if_neg h1] at hrt hnx
  have h1' : ¬ (n : Int) < (L : Int) := by omega
  obtain ⟨v1, H1, k1, rfl, d1, f1⟩ := hT id a l p L 0 H h (by omega)
  rw [takeR_ok (by omega)] at k1 d1
  have hll : ((l.drop p).take L).length ≤ 2 := by rw [List.length_take]; omega
  simp -implicitDefEqProofs only [bU, reduceIte, Nat.reduceEqDiff, reduceCtorEq, implies_true, forall_const, eq_self, Nat.reduceAdd, Nat.reduceLT, bne_self_eq_false, bT, eq_self, true_implies, false_implies, forall_const, if_true, if_false, Int.reduceToNat, Nat.reduceSub, Int.reduceLE, bV, Nat.reduceAdd, Nat.reduceLT, Nat.reduceLeDiff, Nat.reduceLeDiff, pv_faC, pv_faV, q0, q2, q3, q4, q5, q6, q7, h1', k1]
  refine exec_loop (fun m e M => ∃ (k pp : Nat) (out : List UInt8) (H' : AH) (L' : List Lv) (g : Nat), k ≤ K ∧ m = k ∧ pp ≤ p + n ∧ look e 0 = .pv id 0 ∧ look e 2 = .la 2 0 0 0 ∧ look e 3 = .la 3 1 0 0 ∧ look e 5 = .i .i64 (p + n : Nat) ∧ look e 6 = .i .i64 k ∧
    M = ⟨L', g, H'⟩ ∧ keepL [0, 2, 3, 5, 6] L' = [⟨3, 1, 0, [.ag [.s s, .i .i64 ty, .i .i64 cls, .i .i64 ttl, .s out]]⟩, ⟨2, 0, 0, [.ag [.s [], .i .i64 0, .i .i64 0, .i .i64 0, .s []]]⟩] ∧ Dec H' id a l pp 0 ∧ Kp [id] H H' ∧ out.length + 255 * k ≤ 600 ∧ ptI l (p + n) K (p + L) ((l.drop p).take L) = ptI l (p + n) k pp out) ?_ (n := K)
    ⟨K, p + L, _, H1, _, _, by omega, rfl, by omega, q0, q2, q3, q5, q6, rfl, rfl, d1, f1, by omega, rfl⟩
  clear d1 f1 k1
  rintro k e M ⟨_, pp, out, H', L', g, hk, rfl, hpp, q0, q2, q3, q5, q6, rfl, hL, hd, hf, hol, hg⟩
  have hl := hd.hl
  cases k with
  | zero =>
    rw [ptI] at hg
    have hz : ¬ (0 : Int) < ((0 : Nat) : Int) := by omega
    obtain ⟨v2, H2, k2, rfl, d2, f2⟩ := hT id a l pp (p + n - pp) 0 H' hd (by omega)
    rw [takeR_ok (by omega)] at k2 d2
    obtain ⟨⟨m1, m2, m3⟩, m4, m5, m6⟩ := hd.lds
    have w1 : IntKind.i64.wrap (((p + n : Nat) : Int) - (pp : Int)) = ((p + n - pp : Nat) : Int) := by rw [w64 (by omega) (by omega)]; omega
    have d2' : Dec H2 id a l (p + n) 0 := by
      have e : pp + (p + n - pp) = p + n := by omega
      simp only [e] at d2; exact d2
    simp -implicitDefEqProofs only [bU, reduceIte, Nat.reduceEqDiff, reduceCtorEq, implies_true, forall_const, eq_self, Nat.reduceAdd, Nat.reduceLT, bne_self_eq_false, bT, eq_self, true_implies, false_implies, forall_const, if_true, if_false, Int.reduceToNat, Nat.reduceSub, Int.reduceLE, bV, Nat.reduceAdd, Nat.reduceLT, Nat.reduceLeDiff, Nat.reduceLeDiff, lgAt, isRd, pv_faC, pv_faV, q0, q2, q3, q5, q6, hL, hz, m1, m2, m3, m4, m5, m6, w1, k2]
    exact ⟨by rw [List.length_take]; omega, hnx _ _ _ out pp hg d2' (hf.trans f2) (by simp -implicitDefEqProofs only [bU, reduceIte, Nat.reduceEqDiff, reduceCtorEq, implies_true, forall_const, eq_self, Nat.reduceAdd, Nat.reduceLT, bne_self_eq_false, bT, eq_self, true_implies, false_implies, forall_const, if_true, if_false, Int.reduceToNat, Nat.reduceSub, Int.reduceLE, q0]) (by simp -implicitDefEqProofs only [bU, reduceIte, Nat.reduceEqDiff, reduceCtorEq, implies_true, forall_const, eq_self, Nat.reduceAdd, Nat.reduceLT, bne_self_eq_false, bT, eq_self, true_implies, false_implies, forall_const, if_true, if_false, Int.reduceToNat, Nat.reduceSub, Int.reduceLE, q2]) (by simp -implicitDefEqProofs only [bU, reduceIte, Nat.reduceEqDiff, reduceCtorEq, implies_true, forall_const, eq_self, Nat.reduceAdd, Nat.reduceLT, bne_self_eq_false, bT, eq_self, true_implies, false_implies, forall_const, if_true, if_false, Int.reduceToNat, Nat.reduceSub, Int.reduceLE, q3])⟩
  | succ k =>
    rw [ptI] at hg
    have hz : (0 : Int) < ((k + 1 : Nat) : Int) := by omega
    obtain ⟨v2, H2, k2, f2, hpost⟩ := hN id a l pp H' hd
    cases hdn : dn l pp pp none [] with
    | error c =>
      rw [hdn] at hpost hg
      obtain ⟨rfl, d2⟩ := hpost
      have hc0 := dn_e hdn
      obtain ⟨⟨m1, m2, m3⟩, m4, m5, m6⟩ := d2.lds
      simp -implicitDefEqProofs only [bU, reduceIte, Nat.reduceEqDiff, reduceCtorEq, implies_true, forall_const, eq_self, Nat.reduceAdd, Nat.reduceLT, bne_self_eq_false, bT, eq_self, true_implies, false_implies, forall_const, if_true, if_false, Int.reduceToNat, Nat.reduceSub, Int.reduceLE, bV, Nat.reduceAdd, Nat.reduceLT, Nat.reduceLeDiff, Nat.reduceLeDiff, lgAt, isRd, pv_faC, pv_faV, q0, q2, q3, q5, q6, hL, hz, m1, m2, m3, m4, m5, m6, k2, hc0]
      exact ⟨by omega, hrt _ _ _ c pp _ hg d2 (hf.trans f2) (by simp -implicitDefEqProofs only [bU, reduceIte, Nat.reduceEqDiff, reduceCtorEq, implies_true, forall_const, eq_self, Nat.reduceAdd, Nat.reduceLT, bne_self_eq_false, bT, eq_self, true_implies, false_implies, forall_const, if_true, if_false, Int.reduceToNat, Nat.reduceSub, Int.reduceLE, q2])⟩
    | ok z =>
      obtain ⟨s', q⟩ := z
      rw [hdn] at hpost hg
      obtain ⟨rfl, d2⟩ := hpost
      simp only at hg
      obtain ⟨-, y2, y3⟩ := dn_name hdn
      obtain ⟨⟨m1, m2, m3⟩, m4, m5, m6⟩ := d2.lds
      by_cases h2 : p + n < q
      · rw [if_pos h2] at hg
        have h2' : ((p + n : Nat) : Int) < (q : Int) := by omega
        obtain ⟨s1, H3, s2, s3, s4⟩ := d2.st.2 7
        simp -implicitDefEqProofs only [bU, reduceIte, Nat.reduceEqDiff, reduceCtorEq, implies_true, forall_const, eq_self, Nat.reduceAdd, Nat.reduceLT, bne_self_eq_false, bT, eq_self, true_implies, false_implies, forall_const, if_true, if_false, Int.reduceToNat, Nat.reduceSub, Int.reduceLE, bV, Nat.reduceAdd, Nat.reduceLT, Nat.reduceLeDiff, Nat.reduceLeDiff, lgAt, isRd, pv_faC, pv_faV, q0, q2, q3, q5, q6, hL, hz, m1, m2, m3, m4, m5, m6, k2, Int.reduceEq, h2', s1, s2]
        exact ⟨by omega, hrt _ _ _ 7 q _ hg s3 ((hf.trans f2).trans s4) (by simp -implicitDefEqProofs only [bU, reduceIte, Nat.reduceEqDiff, reduceCtorEq, implies_true, forall_const, eq_self, Nat.reduceAdd, Nat.reduceLT, bne_self_eq_false, bT, eq_self, true_implies, false_implies, forall_const, if_true, if_false, Int.reduceToNat, Nat.reduceSub, Int.reduceLE, q2])⟩
      · rw [if_neg h2] at hg
        have h2' : ¬ ((p + n : Nat) : Int) < (q : Int) := by omega
        have w2 : IntKind.i64.wrap (((k + 1 : Nat) : Int) - 1) = (k : Int) := by rw [w64 (by omega) (by omega)]; omega
        simp -implicitDefEqProofs only [bU, reduceIte, Nat.reduceEqDiff, reduceCtorEq, implies_true, forall_const, eq_self, Nat.reduceAdd, Nat.reduceLT, bne_self_eq_false, bT, eq_self, true_implies, false_implies, forall_const, if_true, if_false, Int.reduceToNat, Nat.reduceSub, Int.reduceLE, bV, Nat.reduceAdd, Nat.reduceLT, Nat.reduceLeDiff, Nat.reduceLeDiff, lgAt, isRd, pv_faC, pv_faV, q0, q2, q3, q5, q6, hL, hz, m1, m2, m3, m4, m5, m6, k2, Int.reduceEq, h2', w2]
        exact ⟨by omega, k, by omega, k, q, out ++ s', H2, _, _, by omega, rfl, by omega, rfl, rfl, rfl, d2, hf.trans f2, by rw [List.length_append]; omega, hg⟩
set_option maxRecDepth 100000 in
set_option maxHeartbeats 2000000 in
theorem r_decRec {id : Nat} {a : AV} {l : List UInt8} {p : Nat} {H : AH} (hN : T_decName C n_impl_decoder_name) (hT : T_take C n_impl_decoder_take) (hU : T_u16 C n_impl_u16) (hW : T_u32 C n_impl_u32) (hP : T_hasP C n_impl_hasPointers) (hC : T_CheckI C n_impl_CheckData)
    (h : Dec H id a l p 0) (hF : FormsOK H) : Runs C c_impl_decoder_record [.pv id 0] H (RecPost (recR l p) id a l H) := by
  unfold Runs
  obtain ⟨B, hB, hs⟩ := cut_at c_impl_decoder_record [1, 1, 1, 1, 1, 1, 1, 1, 1, 1, 0, 1, 4, 1, 1, 1]
  rw [hs]
  simp only [c_impl_decoder_record, sPut]
  have hB' : B = ptBlk := hB
  clear hs hB
  obtain ⟨v1, H0, k0, f0, hpost⟩ := hN id a l p H h
  unfold recR
  cases hd : dn l p p none [] with
  | error c =>
    rw [hd] at hpost
    obtain ⟨rfl, hd1⟩ := hpost
    have hc0 := dn_e hd
    obtain ⟨T1, T2, T3, T4, H1, H2, H3, H4, H5, p4, c4, k1, k2, k3, k4, k5, n1, n2, n3, n4, d5, f5, hb, -, -⟩ := take4 hT hW hd1
    have hc4 := hb hc0
    subst hc4
    have u1 := fun H => hU T1 H (by omega)
    have u2 := fun H => hU T2 H (by omega)
    have u4 := fun H => hU T4 H (by omega)
    obtain ⟨⟨m1, m2, m3⟩, m4, m5, m6⟩ := d5.lds
    simp -implicitDefEqProofs only [bU, reduceIte, Nat.reduceEqDiff, reduceCtorEq, implies_true, forall_const, eq_self, Nat.reduceAdd, Nat.reduceLT, bne_self_eq_false, bT, eq_self, true_implies, false_implies, forall_const, if_true, if_false, Int.reduceToNat, Nat.reduceSub, Int.reduceLE, bV, Nat.reduceAdd, Nat.reduceLT, Nat.reduceLeDiff, Nat.reduceLeDiff, pv_faC, pv_faV, k0, k1, k2, k3, k4, k5, u1, u2, u4, m1, m2, m3, m4, m5, m6, hc0, endK, rsC, rsV, resV]
    exact ⟨f0.trans f5, rfl, p4, d5⟩
  | ok z =>
    obtain ⟨s, q⟩ := z
    rw [hd] at hpost
    obtain ⟨rfl, hd1⟩ := hpost
    obtain ⟨T1, T2, T3, T4, H1, H2, H3, H4, H5, p4, c4, k1, k2, k3, k4, k5, n1, n2, n3, n4, d5, f5, -, hfar, hok⟩ := take4 hT hW hd1
    have u1 := fun H => hU T1 H (by omega)
    have u2 := fun H => hU T2 H (by omega)
    have u4 := fun H => hU T4 H (by omega)
    simp only
    obtain ⟨⟨m1, m2, m3⟩, m4, m5, m6⟩ := d5.lds
    by_cases g1 : l.length < q + 10
    · rw [if_pos g1]
      have hc4 := hfar rfl g1
      subst hc4
      simp -implicitDefEqProofs only [bU, reduceIte, Nat.reduceEqDiff, reduceCtorEq, implies_true, forall_const, eq_self, Nat.reduceAdd, Nat.reduceLT, bne_self_eq_false, bT, eq_self, true_implies, false_implies, forall_const, if_true, if_false, Int.reduceToNat, Nat.reduceSub, Int.reduceLE, bV, Nat.reduceAdd, Nat.reduceLT, Nat.reduceLeDiff, Nat.reduceLeDiff, pv_faC, pv_faV, k0, k1, k2, k3, k4, k5, u1, u2, u4, m1, m2, m3, m4, m5, m6, Int.reduceEq, endK, rsC, rsV, resV]
      exact ⟨f0.trans f5, rfl, p4, d5⟩
    rw [if_neg g1]
    obtain ⟨rfl, rfl, e1, e2, e3, e4⟩ := hok rfl (by omega)
    have b1 : num (T1.take 2) 0 = b2 l q := by rw [e1, List.take_take]; rfl
    have b2' : num (T2.take 2) 0 = b2 l (q + 2) := by rw [e2, List.take_take]; rfl
    have b3 : num (T3.take 4) 0 = num ((l.drop (q + 4)).take 4) 0 := by rw [e3, List.take_take]; rfl
    have b4 : num (T4.take 2) 0 = b2 l (q + 8) := by rw [e4, List.take_take]; rfl
    rw [b1] at u1
    rw [b2'] at u2
    rw [b3] at k4
    rw [b4] at u4
    clear e1 e2 e3 e4 b1 b2' b3 b4 hfar hok
    have t0 := b2_lt (l := l) (k := q) (by omega)
    have t8 := b2_lt (l := l) (k := q + 8) (by omega)
    obtain ⟨l1, l2⟩ := d5.b.len
    have hl := d5.hl
    have w1 : IntKind.i64.wrap (((q + 10 : Nat) : Int) + ((b2 l (q + 8) : Nat) : Int)) = ((q + 10 + b2 l (q + 8) : Nat) : Int) := by rw [w64 (by omega) (by omega)]; omega
    by_cases g2 : l.length < q + 10 + b2 l (q + 8)
    · rw [if_pos g2]
      have g2' : (l.length : Int) < ((q + 10 + b2 l (q + 8) : Nat) : Int) := by omega
      obtain ⟨s1, H6, s2, s3, s4⟩ := d5.st.2 8
      simp -implicitDefEqProofs only [bU, reduceIte, Nat.reduceEqDiff, reduceCtorEq, implies_true, forall_const, eq_self, Nat.reduceAdd, Nat.reduceLT, bne_self_eq_false, bT, eq_self, true_implies, false_implies, forall_const, if_true, if_false, Int.reduceToNat, Nat.reduceSub, Int.reduceLE, bV, Nat.reduceAdd, Nat.reduceLT, Nat.reduceLeDiff, Nat.reduceLeDiff, pv_faC, pv_faV, k0, k1, k2, k3, k4, k5, u1, u2, u4, m1, m2, m3, m4, m5, m6, l1, l2, w1, g2', s1, s2, Int.reduceEq, endK, rsC, rsV, resV]
      exact ⟨(f0.trans f5).trans s4, rfl, _, s3⟩
    rw [if_neg g2]
    have g2' : ¬ (l.length : Int) < ((q + 10 + b2 l (q + 8) : Nat) : Int) := by omega
    unfold datR
    by_cases g3 : b2 l (q + 8) = 0
    · rw [if_pos (by omega)]
      have g3' : (((b2 l (q + 8) : Nat) : Int) = 0) = True := eq_true (by omega)
      simp -implicitDefEqProofs only [bU, reduceIte, Nat.reduceEqDiff, reduceCtorEq, implies_true, forall_const, eq_self, Nat.reduceAdd, Nat.reduceLT, bne_self_eq_false, bT, eq_self, true_implies, false_implies, forall_const, if_true, if_false, Int.reduceToNat, Nat.reduceSub, Int.reduceLE, bV, Nat.reduceAdd, Nat.reduceLT, Nat.reduceLeDiff, Nat.reduceLeDiff, pv_faC, pv_faV, k0, k1, k2, k3, k4, k5, u1, u2, u4, m1, m2, m3, m4, m5, m6, l1, l2, w1, g2', g3', endK, rsC, rsV, resV]
      refine ⟨f0.trans f5, rfl, ?_⟩
      rw [g3]; exact d5
    rw [if_neg (by omega)]
    have g3' : ¬ ((b2 l (q + 8) : Nat) : Int) = 0 := by omega
    have kP := fun H => hP (b2 l q : Nat) H
    cases hh : hasP (b2 l q : Nat) with
    | false =>
      rw [hh] at kP
      rw [if_neg (by simp), Nat.add_sub_cancel_left]
      obtain ⟨v6, H6, k6, rfl, d6, f6⟩ := hT id a l (q + 10) (b2 l (q + 8)) 0 H5 d5 (by omega)
      rw [takeR_ok (by omega)] at k6 d6
      have hlen : ((l.drop (q + 10)).take (b2 l (q + 8))).length = b2 l (q + 8) := by rw [List.length_take, List.length_drop]; omega
      obtain ⟨v7, H7, k7, rfl, e7⟩ := hC (b2 l q : Nat) ((l.drop (q + 10)).take (b2 l (q + 8))) H6 (hF.kp h.ob (by simp) ((f0.trans f5).trans f6)) (by omega)
      by_cases g4 : chk (b2 l q : Nat) ((l.drop (q + 10)).take (b2 l (q + 8))) = 0
      · rw [if_pos g4]
        rw [g4] at k7
        simp -implicitDefEqProofs only [bU, reduceIte, Nat.reduceEqDiff, reduceCtorEq, implies_true, forall_const, eq_self, Nat.reduceAdd, Nat.reduceLT, bne_self_eq_false, bT, eq_self, true_implies, false_implies, forall_const, if_true, if_false, Int.reduceToNat, Nat.reduceSub, Int.reduceLE, bV, Nat.reduceAdd, Nat.reduceLT, Nat.reduceLeDiff, Nat.reduceLeDiff, pv_faC, pv_faV, k0, k1, k2, k3, k4, k5, u1, u2, u4, m1, m2, m3, m4, m5, m6, l1, l2, w1, g2', g3', kP, k6, k7, Int.reduceEq, endK, rsC, rsV, resV]
        exact ⟨((f0.trans f5).trans f6).trans (.ext e7), rfl, d6.ext e7⟩
      · rw [if_neg g4]
        obtain ⟨s1, H8, s2, s3, s4⟩ := (d6.ext e7).st.2 7
        simp -implicitDefEqProofs only [bU, reduceIte, Nat.reduceEqDiff, reduceCtorEq, implies_true, forall_const, eq_self, Nat.reduceAdd, Nat.reduceLT, bne_self_eq_false, bT, eq_self, true_implies, false_implies, forall_const, if_true, if_false, Int.reduceToNat, Nat.reduceSub, Int.reduceLE, bV, Nat.reduceAdd, Nat.reduceLT, Nat.reduceLeDiff, Nat.reduceLeDiff, pv_faC, pv_faV, k0, k1, k2, k3, k4, k5, u1, u2, u4, m1, m2, m3, m4, m5, m6, l1, l2, w1, g2', g3', kP, k6, k7, g4, s1, s2, endK, rsC, rsV, resV]
        exact ⟨(((f0.trans f5).trans f6).trans (.ext e7)).trans s4, rfl, _, s3⟩
    | true =>
      rw [hh] at kP
      obtain ⟨y1, y2, y3, y4, y5⟩ := pt_sm hh
      rw [if_pos rfl, ptGo_impl2 hh (by omega) (by omega), Nat.add_sub_cancel_left]
      have key : ∀ (e : Env) (g : Nat) (κ : Kont), look e 0 = .pv id 0 → look e 2 = .la 2 0 0 0 → look e 3 = .la 3 1 0 0 → look e 4 = .i .i64 (b2 l (q + 8) : Nat) → look e 5 = .i .i64 (q + 10 + b2 l (q + 8) : Nat) → look e 6 = .i .i64 (ptK (b2 l q : Nat) : Nat) → look e 7 = .i .i64 (ptL (b2 l q : Nat) : Nat) → _ → _ → exec C B e _ κ := fun e g κ q0 q2 q3 q4 q5 q6 q7 hrt hnx => hB' ▸ r_pt (s := s) (ty := (b2 l q : Nat)) (cls := (b2 l (q + 2) : Nat)) (ttl := (num ((l.drop (q + 4)).take 4) 0 : Nat)) (g := g) hN hT d5 (by omega) y3 y4 q0 q2 q3 q4 q5 q6 q7 hrt hnx
      generalize hX : (if b2 l (q + 8) < ptL (b2 l q : Nat) then Except.error 7 else ptI l (q + 10 + b2 l (q + 8)) (ptK (b2 l q : Nat)) (q + 10 + ptL (b2 l q : Nat)) ((l.drop (q + 10)).take (ptL (b2 l q : Nat)))) = X at key ⊢
      by_cases z15 : ((b2 l q : Nat) : Int) = 15
      · have zL : ptL (b2 l q : Nat) = 2 := by rw [ptL, if_pos z15]
        have zK : ptK (b2 l q : Nat) = 1 := by rw [ptK, if_neg (by omega)]
        have z15' : (((b2 l q : Nat) : Int) = 15) = True := eq_true z15
        rw [zL, zK] at key
        simp -implicitDefEqProofs only [bU, reduceIte, Nat.reduceEqDiff, reduceCtorEq, implies_true, forall_const, eq_self, Nat.reduceAdd, Nat.reduceLT, bne_self_eq_false, bT, eq_self, true_implies, false_implies, forall_const, if_true, if_false, Int.reduceToNat, Nat.reduceSub, Int.reduceLE, bV, Nat.reduceAdd, Nat.reduceLT, Nat.reduceLeDiff, Nat.reduceLeDiff, pv_faC, pv_faV, k0, k1, k2, k3, k4, k5, u1, u2, u4, m1, m2, m3, m4, m5, m6, l1, l2, w1, g2', g3', kP, z15']
        refine key _ _ _ rfl rfl rfl rfl rfl rfl rfl ?_ ?_
        · intro e' g' H' c p' d hx hdec hk q2'
          subst hx
          simp only [eR, Enc.v, zr]
          simp -implicitDefEqProofs only [bU, reduceIte, Nat.reduceEqDiff, reduceCtorEq, implies_true, forall_const, eq_self, Nat.reduceAdd, Nat.reduceLT, bne_self_eq_false, bT, eq_self, true_implies, false_implies, forall_const, if_true, if_false, Int.reduceToNat, Nat.reduceSub, Int.reduceLE, bV, Nat.reduceAdd, Nat.reduceLT, Nat.reduceLeDiff, Nat.reduceLeDiff, q2', endK, rsC, rsV, resV]
          exact ⟨(f0.trans f5).trans hk, rfl, p', hdec⟩
        · intro e' g' H' o qq hx hdec hk q0' q2' q3'
          subst hx
          simp only [eR, Enc.v, zr]
          have hlen : (o ++ (l.drop qq).take (q + 10 + b2 l (q + 8) - qq)).length ≤ 1099511627776 := by
            have h1 := ptI_len hX
            rw [List.length_append, List.length_take, List.length_drop]
            omega
          obtain ⟨v7, H7, k7, rfl, e7⟩ := hC (b2 l q : Nat) (o ++ (l.drop qq).take (q + 10 + b2 l (q + 8) - qq)) H' (hF.kp h.ob (by simp) ((f0.trans f5).trans hk)) hlen
          by_cases g4 : chk (b2 l q : Nat) (o ++ (l.drop qq).take (q + 10 + b2 l (q + 8) - qq)) = 0
          · simp only [ptE]
            rw [if_pos g4]
            rw [g4] at k7
            simp -implicitDefEqProofs only [bU, reduceIte, Nat.reduceEqDiff, reduceCtorEq, implies_true, forall_const, eq_self, Nat.reduceAdd, Nat.reduceLT, bne_self_eq_false, bT, eq_self, true_implies, false_implies, forall_const, if_true, if_false, Int.reduceToNat, Nat.reduceSub, Int.reduceLE, bV, Nat.reduceAdd, Nat.reduceLT, Nat.reduceLeDiff, Nat.reduceLeDiff, q0', q2', q3', k7, Int.reduceEq, endK, rsC, rsV, resV]
            exact ⟨((f0.trans f5).trans hk).trans (.ext e7), rfl, hdec.ext e7⟩
          · simp only [ptE]
            rw [if_neg g4]
            obtain ⟨s1, H8, s2, s3, s4⟩ := (hdec.ext e7).st.2 7
            simp -implicitDefEqProofs only [bU, reduceIte, Nat.reduceEqDiff, reduceCtorEq, implies_true, forall_const, eq_self, Nat.reduceAdd, Nat.reduceLT, bne_self_eq_false, bT, eq_self, true_implies, false_implies, forall_const, if_true, if_false, Int.reduceToNat, Nat.reduceSub, Int.reduceLE, bV, Nat.reduceAdd, Nat.reduceLT, Nat.reduceLeDiff, Nat.reduceLeDiff, pv_faC, pv_faV, q0', q2', q3', k7, g4, s1, s2, endK, rsC, rsV, resV]
            exact ⟨(((f0.trans f5).trans hk).trans (.ext e7)).trans s4, rfl, _, s3⟩
      · by_cases z6 : ((b2 l q : Nat) : Int) = 6
        · have zL : ptL (b2 l q : Nat) = 0 := by rw [ptL, if_neg z15]
          have zK : ptK (b2 l q : Nat) = 2 := by rw [ptK, if_pos z6]
          have z6' : (((b2 l q : Nat) : Int) = 6) = True := eq_true z6
          rw [zL, zK] at key
          simp -implicitDefEqProofs only [bU, reduceIte, Nat.reduceEqDiff, reduceCtorEq, implies_true, forall_const, eq_self, Nat.reduceAdd, Nat.reduceLT, bne_self_eq_false, bT, eq_self, true_implies, false_implies, forall_const, if_true, if_false, Int.reduceToNat, Nat.reduceSub, Int.reduceLE, bV, Nat.reduceAdd, Nat.reduceLT, Nat.reduceLeDiff, Nat.reduceLeDiff, pv_faC, pv_faV, k0, k1, k2, k3, k4, k5, u1, u2, u4, m1, m2, m3, m4, m5, m6, l1, l2, w1, g2', g3', kP, z15, z6']
          refine key _ _ _ rfl rfl rfl rfl rfl rfl rfl ?_ ?_
          · intro e' g' H' c p' d hx hdec hk q2'
            subst hx
            simp only [eR, Enc.v, zr]
            simp -implicitDefEqProofs only [bU, reduceIte, Nat.reduceEqDiff, reduceCtorEq, implies_true, forall_const, eq_self, Nat.reduceAdd, Nat.reduceLT, bne_self_eq_false, bT, eq_self, true_implies, false_implies, forall_const, if_true, if_false, Int.reduceToNat, Nat.reduceSub, Int.reduceLE, bV, Nat.reduceAdd, Nat.reduceLT, Nat.reduceLeDiff, Nat.reduceLeDiff, q2', endK, rsC, rsV, resV]
            exact ⟨(f0.trans f5).trans hk, rfl, p', hdec⟩
          · intro e' g' H' o qq hx hdec hk q0' q2' q3'
            subst hx
            simp only [eR, Enc.v, zr]
            have hlen : (o ++ (l.drop qq).take (q + 10 + b2 l (q + 8) - qq)).length ≤ 1099511627776 := by
              have h1 := ptI_len hX
              rw [List.length_append, List.length_take, List.length_drop]
              omega
            obtain ⟨v7, H7, k7, rfl, e7⟩ := hC (b2 l q : Nat) (o ++ (l.drop qq).take (q + 10 + b2 l (q + 8) - qq)) H' (hF.kp h.ob (by simp) ((f0.trans f5).trans hk)) hlen
            by_cases g4 : chk (b2 l q : Nat) (o ++ (l.drop qq).take (q + 10 + b2 l (q + 8) - qq)) = 0
            · simp only [ptE]
              rw [if_pos g4]
              rw [g4] at k7
              simp -implicitDefEqProofs only [bU, reduceIte, Nat.reduceEqDiff, reduceCtorEq, implies_true, forall_const, eq_self, Nat.reduceAdd, Nat.reduceLT, bne_self_eq_false, bT, eq_self, true_implies, false_implies, forall_const, if_true, if_false, Int.reduceToNat, Nat.reduceSub, Int.reduceLE, bV, Nat.reduceAdd, Nat.reduceLT, Nat.reduceLeDiff, Nat.reduceLeDiff, q0', q2', q3', k7, Int.reduceEq, endK, rsC, rsV, resV]
              exact ⟨((f0.trans f5).trans hk).trans (.ext e7), rfl, hdec.ext e7⟩
            · simp only [ptE]
              rw [if_neg g4]
              obtain ⟨s1, H8, s2, s3, s4⟩ := (hdec.ext e7).st.2 7
              simp -implicitDefEqProofs only [bU, reduceIte, Nat.reduceEqDiff, reduceCtorEq, implies_true, forall_const, eq_self, Nat.reduceAdd, Nat.reduceLT, bne_self_eq_false, bT, eq_self, true_implies, false_implies, forall_const, if_true, if_false, Int.reduceToNat, Nat.reduceSub, Int.reduceLE, bV, Nat.reduceAdd, Nat.reduceLT, Nat.reduceLeDiff, Nat.reduceLeDiff, pv_faC, pv_faV, q0', q2', q3', k7, g4, s1, s2, endK, rsC, rsV, resV]
              exact ⟨(((f0.trans f5).trans hk).trans (.ext e7)).trans s4, rfl, _, s3⟩
        · have zL : ptL (b2 l q : Nat) = 0 := by rw [ptL, if_neg z15]
          have zK : ptK (b2 l q : Nat) = 1 := by rw [ptK, if_neg z6]
          rw [zL, zK] at key
          simp -implicitDefEqProofs only [bU, reduceIte, Nat.reduceEqDiff, reduceCtorEq, implies_true, forall_const, eq_self, Nat.reduceAdd, Nat.reduceLT, bne_self_eq_false, bT, eq_self, true_implies, false_implies, forall_const, if_true, if_false, Int.reduceToNat, Nat.reduceSub, Int.reduceLE, bV, Nat.reduceAdd, Nat.reduceLT, Nat.reduceLeDiff, Nat.reduceLeDiff, pv_faC, pv_faV, k0, k1, k2, k3, k4, k5, u1, u2, u4, m1, m2, m3, m4, m5, m6, l1, l2, w1, g2', g3', kP, z15, z6]
          refine key _ _ _ rfl rfl rfl rfl rfl rfl rfl ?_ ?_
          · intro e' g' H' c p' d hx hdec hk q2'
            subst hx
            simp only [eR, Enc.v, zr]
            simp -implicitDefEqProofs only [bU, reduceIte, Nat.reduceEqDiff, reduceCtorEq, implies_true, forall_const, eq_self, Nat.reduceAdd, Nat.reduceLT, bne_self_eq_false, bT, eq_self, true_implies, false_implies, forall_const, if_true, if_false, Int.reduceToNat, Nat.reduceSub, Int.reduceLE, bV, Nat.reduceAdd, Nat.reduceLT, Nat.reduceLeDiff, Nat.reduceLeDiff, q2', endK, rsC, rsV, resV]
            exact ⟨(f0.trans f5).trans hk, rfl, p', hdec⟩
          · intro e' g' H' o qq hx hdec hk q0' q2' q3'
            subst hx
            simp only [eR, Enc.v, zr]
            have hlen : (o ++ (l.drop qq).take (q + 10 + b2 l (q + 8) - qq)).length ≤ 1099511627776 := by
              have h1 := ptI_len hX
              rw [List.length_append, List.length_take, List.length_drop]
              omega
            obtain ⟨v7, H7, k7, rfl, e7⟩ := hC (b2 l q : Nat) (o ++ (l.drop qq).take (q + 10 + b2 l (q + 8) - qq)) H' (hF.kp h.ob (by simp) ((f0.trans f5).trans hk)) hlen
            by_cases g4 : chk (b2 l q : Nat) (o ++ (l.drop qq).take (q + 10 + b2 l (q + 8) - qq)) = 0
            · simp only [ptE]
              rw [if_pos g4]
              rw [g4] at k7
              simp -implicitDefEqProofs only [bU, reduceIte, Nat.reduceEqDiff, reduceCtorEq, implies_true, forall_const, eq_self, Nat.reduceAdd, Nat.reduceLT, bne_self_eq_false, bT, eq_self, true_implies, false_implies, forall_const, if_true, if_false, Int.reduceToNat, Nat.reduceSub, Int.reduceLE, bV, Nat.reduceAdd, Nat.reduceLT, Nat.reduceLeDiff, Nat.reduceLeDiff, q0', q2', q3', k7, Int.reduceEq, endK, rsC, rsV, resV]
              exact ⟨((f0.trans f5).trans hk).trans (.ext e7), rfl, hdec.ext e7⟩
            · simp only [ptE]
              rw [if_neg g4]
              obtain ⟨s1, H8, s2, s3, s4⟩ := (hdec.ext e7).st.2 7
              simp -implicitDefEqProofs only [bU, reduceIte, Nat.reduceEqDiff, reduceCtorEq, implies_true, forall_const, eq_self, Nat.reduceAdd, Nat.reduceLT, bne_self_eq_false, bT, eq_self, true_implies, false_implies, forall_const, if_true, if_false, Int.reduceToNat, Nat.reduceSub, Int.reduceLE, bV, Nat.reduceAdd, Nat.reduceLT, Nat.reduceLeDiff, Nat.reduceLeDiff, pv_faC, pv_faV, q0', q2', q3', k7, g4, s1, s2, endK, rsC, rsV, resV]
              exact ⟨(((f0.trans f5).trans hk).trans (.ext e7)).trans s4, rfl, _, s3⟩
end
end Go.Vm
/- Messages read: the program's state between two entries of a message. -/
namespace Go.Vm
set_option linter.unusedVariables false
set_option linter.unusedSimpArgs false
def mCs (h : Hd) (q a b c : AV) : List AV := [.i .i64 h.id, .b h.qr, .i .i64 h.op, .b h.aa, .b h.tc, .b h.rd, .b h.ra, .b h.z, .b h.ad, .b h.cd, .i .i64 h.code, q, a, b, c]
structure DS (H0 H : AH) (a : AV) (l : List UInt8) (p : Nat) (code : Int) (q ra rb rc : AV) (m : Msg) : Prop where
  dec : Dec H H0.n a l p code
  ms : Obj1 H (H0.n + 1) (mCs m.h q ra rb rc)
  m : MsgM H (H0.n + 2) q ra rb rc m
  ext : Ext H0 H
  F0 : FormsOK H0
  al : ∀ i, i ∈ idA a → i < H0.n
section
variable {H0 H : AH} {a : AV} {l : List UInt8} {p : Nat} {code : Int} {q ra rb rc : AV} {m : Msg}
theorem DS.kp (h : DS H0 H a l p code q ra rb rc m) {H1 : AH} {p' : Nat} {code' : Int} (hk : Kp [H0.n] H H1) (hd : Dec H1 H0.n a l p' code') : DS H0 H1 a l p' code' q ra rb rc m :=
  ⟨hd, h.ms.kp hk (by simp), h.m.kp hk (fun i hi hj => by have := h.m.ge i hi; rw [List.mem_singleton] at hj; omega), Kp.put h.ext hk (by simp), h.F0, h.al⟩
theorem DS.F (h : DS H0 H a l p code q ra rb rc m) : FormsOK H := h.F0.ext h.ext
theorem DS.e (h : DS H0 H a l p code q ra rb rc m) {H1 : AH} (he : Ext H H1) : DS H0 H1 a l p code q ra rb rc m := h.kp (.ext he) (h.dec.ext he)
theorem DS.rowQ (h : DS H0 H a l p code q ra rb rc m) {y : AV} {L : List Lv} {g : Nat} {r : Qn} (hy : srcV ⟨L, g, H⟩ y = [eQ.v r] ∧ srcC ⟨L, g, H⟩ 3 y) (hl : m.q.length ≤ 100000) :
    apC ⟨L, g, H⟩ 3 32 y q ∧ ∃ q' H1, apV ⟨L, g, H⟩ y q = q' ∧ apM ⟨L, g, H⟩ 3 y q = ⟨L, g, H1⟩ ∧ q'.outs = true ∧ q'.cells = [q'] ∧ (∀ (L : List Lv) (g : Nat), stC ⟨L, g, H1⟩ q' (.pv (H0.n + 1) 11)) ∧
      ∃ H2, (∀ (L : List Lv) (g : Nat), stM ⟨L, g, H1⟩ q' (.pv (H0.n + 1) 11) = ⟨L, g, H2⟩) ∧ DS H0 H2 a l p code q' ra rb rc ⟨m.h, m.q ++ [r], m.an, m.au, m.ex⟩ := by
  have hn := h.ms.lt
  have hdl := h.dec.ob.lt
  obtain ⟨p1, x', H1, p2, p3, p4, p5⟩ := h.m.apQ (by omega) hy hl
  have lw := h.m.low.1
  have ms1 : Obj1 H1 (H0.n + 1) (mCs m.h q ra rb rc) := h.ms.kp p5 fun hi => by have := lw _ hi; omega
  obtain ⟨s1, H2, s2, s3, s4, s5⟩ := ms1.st (off := 11) (v := x') (by simp [mCs]) p4.hq.sl.one
  have k2 : Kp [H0.n + 1] H1 H2 := .st s4 s5
  have ha1 : ∀ i, i ∈ idA a → H1.at' i = H.at' i := fun i hi => p5.at' i (by have := h.al i hi; omega) fun hj => by have := lw _ hj; have := h.al i hi; omega
  have ha2 : ∀ i, i ∈ idA a → H2.at' i = H1.at' i := fun i hi => s5 i (by rw [List.mem_singleton]; have := h.al i hi; omega)
  have ob1 : Obj1 H1 H0.n [a, .i .i64 p, .i .i64 code] := h.dec.ob.kp p5 fun hi => by have := lw _ hi; omega
  have ob2 : Obj1 H2 H0.n [a, .i .i64 p, .i .i64 code] := ob1.kp k2 (by rw [List.mem_singleton]; omega)
  refine ⟨p1, x', H1, p2, p3, p4.hq.sl.out, p4.hq.sl.one, s1, H2, s2, ⟨⟨ob2, Sl.fr h.dec.b (Nat.le_trans p5.n k2.n) fun i hi => (ha2 i hi).trans (ha1 i hi), h.dec.cl.fr fun i hi => (ha2 i hi).trans (ha1 i hi), h.dec.ni, h.dec.hl, h.dec.hp⟩, s3, p4.kp k2 (fun i hi hj => by have := p4.ge i hi; rw [List.mem_singleton] at hj; omega), Kp.put (Kp.put h.ext p5 fun i hi => by have := lw _ hi; omega) k2 (by simp), h.F0, h.al⟩⟩
theorem DS.rowA (h : DS H0 H a l p code q ra rb rc m) {y : AV} {L : List Lv} {g : Nat} {r : Rr} (hy : srcV ⟨L, g, H⟩ y = [eR.v r] ∧ srcC ⟨L, g, H⟩ 5 y) (hl : m.an.length ≤ 100000) :
    apC ⟨L, g, H⟩ 5 56 y ra ∧ ∃ ra' H1, apV ⟨L, g, H⟩ y ra = ra' ∧ apM ⟨L, g, H⟩ 5 y ra = ⟨L, g, H1⟩ ∧ ra'.outs = true ∧ ra'.cells = [ra'] ∧ (∀ (L : List Lv) (g : Nat), stC ⟨L, g, H1⟩ ra' (.pv (H0.n + 1) 12)) ∧
      ∃ H2, (∀ (L : List Lv) (g : Nat), stM ⟨L, g, H1⟩ ra' (.pv (H0.n + 1) 12) = ⟨L, g, H2⟩) ∧ DS H0 H2 a l p code q ra' rb rc ⟨m.h, m.q, m.an ++ [r], m.au, m.ex⟩ := by
  have hn := h.ms.lt
  have hdl := h.dec.ob.lt
  obtain ⟨p1, x', H1, p2, p3, p4, p5⟩ := h.m.apA (by omega) hy hl
  have lw := h.m.low.2.1
  have ms1 : Obj1 H1 (H0.n + 1) (mCs m.h q ra rb rc) := h.ms.kp p5 fun hi => by have := lw _ hi; omega
  obtain ⟨s1, H2, s2, s3, s4, s5⟩ := ms1.st (off := 12) (v := x') (by simp [mCs]) p4.ha.sl.one
  have k2 : Kp [H0.n + 1] H1 H2 := .st s4 s5
  have ha1 : ∀ i, i ∈ idA a → H1.at' i = H.at' i := fun i hi => p5.at' i (by have := h.al i hi; omega) fun hj => by have := lw _ hj; have := h.al i hi; omega
  have ha2 : ∀ i, i ∈ idA a → H2.at' i = H1.at' i := fun i hi => s5 i (by rw [List.mem_singleton]; have := h.al i hi; omega)
  have ob1 : Obj1 H1 H0.n [a, .i .i64 p, .i .i64 code] := h.dec.ob.kp p5 fun hi => by have := lw _ hi; omega
  have ob2 : Obj1 H2 H0.n [a, .i .i64 p, .i .i64 code] := ob1.kp k2 (by rw [List.mem_singleton]; omega)
  refine ⟨p1, x', H1, p2, p3, p4.ha.sl.out, p4.ha.sl.one, s1, H2, s2, ⟨⟨ob2, Sl.fr h.dec.b (Nat.le_trans p5.n k2.n) fun i hi => (ha2 i hi).trans (ha1 i hi), h.dec.cl.fr fun i hi => (ha2 i hi).trans (ha1 i hi), h.dec.ni, h.dec.hl, h.dec.hp⟩, s3, p4.kp k2 (fun i hi hj => by have := p4.ge i hi; rw [List.mem_singleton] at hj; omega), Kp.put (Kp.put h.ext p5 fun i hi => by have := lw _ hi; omega) k2 (by simp), h.F0, h.al⟩⟩
theorem DS.rowB (h : DS H0 H a l p code q ra rb rc m) {y : AV} {L : List Lv} {g : Nat} {r : Rr} (hy : srcV ⟨L, g, H⟩ y = [eR.v r] ∧ srcC ⟨L, g, H⟩ 5 y) (hl : m.au.length ≤ 100000) :
    apC ⟨L, g, H⟩ 5 56 y rb ∧ ∃ rb' H1, apV ⟨L, g, H⟩ y rb = rb' ∧ apM ⟨L, g, H⟩ 5 y rb = ⟨L, g, H1⟩ ∧ rb'.outs = true ∧ rb'.cells = [rb'] ∧ (∀ (L : List Lv) (g : Nat), stC ⟨L, g, H1⟩ rb' (.pv (H0.n + 1) 13)) ∧
      ∃ H2, (∀ (L : List Lv) (g : Nat), stM ⟨L, g, H1⟩ rb' (.pv (H0.n + 1) 13) = ⟨L, g, H2⟩) ∧ DS H0 H2 a l p code q ra rb' rc ⟨m.h, m.q, m.an, m.au ++ [r], m.ex⟩ := by
  have hn := h.ms.lt
  have hdl := h.dec.ob.lt
  obtain ⟨p1, x', H1, p2, p3, p4, p5⟩ := h.m.apB (by omega) hy hl
  have lw := h.m.low.2.2.1
  have ms1 : Obj1 H1 (H0.n + 1) (mCs m.h q ra rb rc) := h.ms.kp p5 fun hi => by have := lw _ hi; omega
  obtain ⟨s1, H2, s2, s3, s4, s5⟩ := ms1.st (off := 13) (v := x') (by simp [mCs]) p4.hb.sl.one
  have k2 : Kp [H0.n + 1] H1 H2 := .st s4 s5
  have ha1 : ∀ i, i ∈ idA a → H1.at' i = H.at' i := fun i hi => p5.at' i (by have := h.al i hi; omega) fun hj => by have := lw _ hj; have := h.al i hi; omega
  have ha2 : ∀ i, i ∈ idA a → H2.at' i = H1.at' i := fun i hi => s5 i (by rw [List.mem_singleton]; have := h.al i hi; omega)
  have ob1 : Obj1 H1 H0.n [a, .i .i64 p, .i .i64 code] := h.dec.ob.kp p5 fun hi => by have := lw _ hi; omega
  have ob2 : Obj1 H2 H0.n [a, .i .i64 p, .i .i64 code] := ob1.kp k2 (by rw [List.mem_singleton]; omega)
  refine ⟨p1, x', H1, p2, p3, p4.hb.sl.out, p4.hb.sl.one, s1, H2, s2, ⟨⟨ob2, Sl.fr h.dec.b (Nat.le_trans p5.n k2.n) fun i hi => (ha2 i hi).trans (ha1 i hi), h.dec.cl.fr fun i hi => (ha2 i hi).trans (ha1 i hi), h.dec.ni, h.dec.hl, h.dec.hp⟩, s3, p4.kp k2 (fun i hi hj => by have := p4.ge i hi; rw [List.mem_singleton] at hj; omega), Kp.put (Kp.put h.ext p5 fun i hi => by have := lw _ hi; omega) k2 (by simp), h.F0, h.al⟩⟩
theorem DS.rowC (h : DS H0 H a l p code q ra rb rc m) {y : AV} {L : List Lv} {g : Nat} {r : Rr} (hy : srcV ⟨L, g, H⟩ y = [eR.v r] ∧ srcC ⟨L, g, H⟩ 5 y) (hl : m.ex.length ≤ 100000) :
    apC ⟨L, g, H⟩ 5 56 y rc ∧ ∃ rc' H1, apV ⟨L, g, H⟩ y rc = rc' ∧ apM ⟨L, g, H⟩ 5 y rc = ⟨L, g, H1⟩ ∧ rc'.outs = true ∧ rc'.cells = [rc'] ∧ (∀ (L : List Lv) (g : Nat), stC ⟨L, g, H1⟩ rc' (.pv (H0.n + 1) 14)) ∧
      ∃ H2, (∀ (L : List Lv) (g : Nat), stM ⟨L, g, H1⟩ rc' (.pv (H0.n + 1) 14) = ⟨L, g, H2⟩) ∧ DS H0 H2 a l p code q ra rb rc' ⟨m.h, m.q, m.an, m.au, m.ex ++ [r]⟩ := by
  have hn := h.ms.lt
  have hdl := h.dec.ob.lt
  obtain ⟨p1, x', H1, p2, p3, p4, p5⟩ := h.m.apC' (by omega) hy hl
  have lw := h.m.low.2.2.2
  have ms1 : Obj1 H1 (H0.n + 1) (mCs m.h q ra rb rc) := h.ms.kp p5 fun hi => by have := lw _ hi; omega
  obtain ⟨s1, H2, s2, s3, s4, s5⟩ := ms1.st (off := 14) (v := x') (by simp [mCs]) p4.hc.sl.one
  have k2 : Kp [H0.n + 1] H1 H2 := .st s4 s5
  have ha1 : ∀ i, i ∈ idA a → H1.at' i = H.at' i := fun i hi => p5.at' i (by have := h.al i hi; omega) fun hj => by have := lw _ hj; have := h.al i hi; omega
  have ha2 : ∀ i, i ∈ idA a → H2.at' i = H1.at' i := fun i hi => s5 i (by rw [List.mem_singleton]; have := h.al i hi; omega)
  have ob1 : Obj1 H1 H0.n [a, .i .i64 p, .i .i64 code] := h.dec.ob.kp p5 fun hi => by have := lw _ hi; omega
  have ob2 : Obj1 H2 H0.n [a, .i .i64 p, .i .i64 code] := ob1.kp k2 (by rw [List.mem_singleton]; omega)
  refine ⟨p1, x', H1, p2, p3, p4.hc.sl.out, p4.hc.sl.one, s1, H2, s2, ⟨⟨ob2, Sl.fr h.dec.b (Nat.le_trans p5.n k2.n) fun i hi => (ha2 i hi).trans (ha1 i hi), h.dec.cl.fr fun i hi => (ha2 i hi).trans (ha1 i hi), h.dec.ni, h.dec.hl, h.dec.hp⟩, s3, p4.kp k2 (fun i hi hj => by have := p4.ge i hi; rw [List.mem_singleton] at hj; omega), Kp.put (Kp.put h.ext p5 fun i hi => by have := lw _ hi; omega) k2 (by simp), h.F0, h.al⟩⟩
end
end Go.Vm
/- Messages read: the program's reader: two numbers, the new message, what is read of it. -/
namespace Go.Vm
set_option linter.unusedVariables false
set_option linter.unusedSimpArgs false
def DcPost (r : Except Int (Msg × Nat)) (H : AH) (v : AV) (H' : AH) : Prop := Ext H H' ∧ match r with
  | .error c => v = .tp [mV hd0 .ns .ns .ns .ns, .i .i64 c]
  | .ok (m, _) => ∃ q a b c, v = .tp [mV m.h q a b c, .i .i64 0] ∧ MsgM H' H.n q a b c m
def T_Decode (C : Tab) (f : Nat) : Prop := ∀ (a : AV) (l : List UInt8) (H : AH), Byt H a l → Cl H a → l.length ≤ 1099511627776 → FormsOK H → ∃ v H', C f [a] H = some (v, H') ∧ DcPost (msgR l) H v H'
def mzV : List AV := [.i .i64 0, .b false, .i .i64 0, .b false, .b false, .b false, .b false, .b false, .b false, .b false, .i .i64 0, .ns, .ns, .ns, .ns]
theorem mCs_st {H : AH} {h : Hd} : (∀ (L : List Lv) (g : Nat), stC ⟨L, g, H.new (.arr true 0 15 [.ag mzV])⟩ (.ag (mCs h .ns .ns .ns .ns)) (.pv H.n 0)) ∧ ∀ (L : List Lv) (g : Nat), stM ⟨L, g, H.new (.arr true 0 15 [.ag mzV])⟩ (.ag (mCs h .ns .ns .ns .ns)) (.pv H.n 0) = ⟨L, g, (H.new (.arr true 0 15 [.ag mzV])).set H.n (.arr true 0 15 [.ag (mCs h .ns .ns .ns .ns)])⟩ := by
  refine ⟨fun L g => ?_, fun L g => ?_⟩
  · simp only [stC, new_at]
    exact ⟨trivial, trivial, rfl, Nat.le_refl _⟩
  · simp only [stM, new_at]
    rfl
section
variable {C : Tab}
theorem take2 {id : Nat} {a : AV} {l : List UInt8} {q : Nat} {c : Int} {H : AH} (hT : T_take C n_impl_decoder_take) (h : Dec H id a l q c) :
    ∃ T1 T2 H1 H2 p2 c2, C n_impl_decoder_take [.pv id 0, .i .i64 2] H = some (.s T1, H1) ∧ C n_impl_decoder_take [.pv id 0, .i .i64 2] H1 = some (.s T2, H2) ∧ T1.length = 2 ∧ T2.length = 2 ∧ Dec H2 id a l p2 c2 ∧ Kp [id] H H2 ∧ (c ≠ 0 → c2 = c) ∧
      (c = 0 → l.length < q + 4 → c2 = 8) ∧ (c = 0 → q + 4 ≤ l.length → c2 = 0 ∧ p2 = q + 4 ∧ T1 = (l.drop q).take 2 ∧ T2 = (l.drop (q + 2)).take 2) := by
  obtain ⟨v1, H1, k1, rfl, d1, f1⟩ := hT id a l q 2 c H h (by omega)
  obtain ⟨v2, H2, k2, rfl, d2, f2⟩ := hT id a l _ 2 _ H1 d1 (by omega)
  refine ⟨_, _, H1, H2, _, _, k1, k2, takeR_len .., takeR_len .., d2, f1.trans f2, fun hc => ?_, fun hc hl => ?_, fun hc hl => ?_⟩
  · have b1 := takeR_bad (l := l) (p := q) (n := 2) hc
    rw [b1, b1]
  · subst hc
    have n8 : (8 : Int) ≠ 0 := by decide
    by_cases g1 : l.length < q + 2
    · rw [takeR_far g1, takeR_bad n8]
    · rw [takeR_ok (by omega : q + 2 ≤ l.length), takeR_far (by omega : l.length < q + 2 + 2)]
  · subst hc
    rw [takeR_ok (by omega : q + 2 ≤ l.length), takeR_ok (by omega : q + 2 + 2 ≤ l.length)]
    exact ⟨rfl, rfl, rfl, rfl⟩
/-- The state with which the reading of entries begins. -/
theorem DS.start {H : AH} {a : AV} {l : List UInt8} {h : Hd} (hb : Byt H a l) (hc : Cl H a) (hl : l.length ≤ 65535) (h12 : 12 ≤ l.length) (hF : FormsOK H) :
    DS H (((H.new (.arr true 0 3 [.ag [a, .i .i64 12, .i .i64 0]])).new (.arr true 0 15 [.ag mzV])).set (H.n + 1) (.arr true 0 15 [.ag (mCs h .ns .ns .ns .ns)])) a l 12 0 .ns .ns .ns .ns ⟨h, [], [], [], []⟩ := by
  have hlt := Sl.lt hb
  have e0 : Ext (H.new (.arr true 0 3 [.ag [a, .i .i64 12, .i .i64 0]])) (((H.new (.arr true 0 3 [.ag [a, .i .i64 12, .i .i64 0]])).new (.arr true 0 15 [.ag mzV])).set (H.n + 1) (.arr true 0 15 [.ag (mCs h .ns .ns .ns .ns)])) := (Ext.new _ _).set (Nat.le_refl _)
  have d0 : Dec (H.new (.arr true 0 3 [.ag [a, .i .i64 12, .i .i64 0]])) H.n a l 12 0 :=
    ⟨Obj1.new (cs := [a, .i .i64 12, .i .i64 0]), Sl.ext hb (.new _ _), hc.fr fun i hi => (Ext.new _ _).at' i (hlt i hi), fun e => by have := hlt _ e; omega, hl, h12⟩
  exact ⟨d0.ext e0, ⟨by simp, set_at⟩, MsgM.nilh _ _ _, (Ext.new _ _).trans e0, hF, hlt⟩
theorem DS.fld {H0 H : AH} {a : AV} {l : List UInt8} {p : Nat} {code : Int} {q ra rb rc : AV} {m : Msg} (h : DS H0 H a l p code q ra rb rc m) :
    ((∀ (L : List Lv) (g : Nat), ldC ⟨L, g, H⟩ none (.pv (H0.n + 1) 11)) ∧ ∀ (L : List Lv) (g : Nat), ldX ⟨L, g, H⟩ none (.pv (H0.n + 1) 11) = q) ∧
    ((∀ (L : List Lv) (g : Nat), ldC ⟨L, g, H⟩ none (.pv (H0.n + 1) 12)) ∧ ∀ (L : List Lv) (g : Nat), ldX ⟨L, g, H⟩ none (.pv (H0.n + 1) 12) = ra) ∧
    ((∀ (L : List Lv) (g : Nat), ldC ⟨L, g, H⟩ none (.pv (H0.n + 1) 13)) ∧ ∀ (L : List Lv) (g : Nat), ldX ⟨L, g, H⟩ none (.pv (H0.n + 1) 13) = rb) ∧
    ((∀ (L : List Lv) (g : Nat), ldC ⟨L, g, H⟩ none (.pv (H0.n + 1) 14)) ∧ ∀ (L : List Lv) (g : Nat), ldX ⟨L, g, H⟩ none (.pv (H0.n + 1) 14) = rc) ∧
    ((∀ (L : List Lv) (g : Nat), ldC ⟨L, g, H⟩ (some 15) (.pv (H0.n + 1) 0)) ∧ ∀ (L : List Lv) (g : Nat), ldX ⟨L, g, H⟩ (some 15) (.pv (H0.n + 1) 0) = mV m.h q ra rb rc) :=
  ⟨h.ms.ld (by simp [mCs]), h.ms.ld (by simp [mCs]), h.ms.ld (by simp [mCs]), h.ms.ld (by simp [mCs]), h.ms.lds⟩
end
end Go.Vm
/- Bounds of what is read of a message. No program in sight. -/
namespace Go.Vm
set_option linter.unusedVariables false
set_option linter.unusedSimpArgs false
theorem dn_fwd (b : List UInt8) : ∀ (n pos start : Nat) (nx : Option Nat) (out s : List UInt8) (q : Nat), dnM b pos start ≤ n → dn b pos start nx out = .ok (s, q) → nx.getD pos ≤ q
  | n, pos, start, nx, out, s, q, hn, h => by
    have e0 : nx.getD pos ≤ nx.getD (pos + 1) := by cases nx <;> simp
    have e2 : nx.getD pos ≤ nx.getD (pos + 2) := by cases nx <;> simp
    rw [dn] at h
    by_cases h1 : b.length ≤ pos
    · rw [dif_pos h1] at h; cases h
    rw [dif_neg h1] at h
    by_cases h2 : (b.getD pos 0).toNat = 0
    · rw [if_pos h2] at h
      injection h with h
      injection h with h h'
      subst h'
      exact e0
    rw [if_neg h2] at h
    by_cases h3 : 192 ≤ (b.getD pos 0).toNat
    · rw [if_pos h3] at h
      by_cases h4 : b.length ≤ pos + 1
      · rw [if_pos h4] at h; cases h
      rw [if_neg h4] at h
      by_cases h5 : start ≤ ((b.getD pos 0).toNat - 192) * 256 + (b.getD (pos + 1) 0).toNat
      · rw [dif_pos h5] at h; cases h
      rw [dif_neg h5] at h
      have hm := dnM_ptr (b := b) (pos := pos) (Nat.lt_of_not_le h5)
      match n, hn with
      | 0, hn => omega
      | n + 1, hn =>
        have := dn_fwd b n _ _ _ _ s q (by omega) h
        simp only [Option.getD_some] at this
        omega
    rw [if_neg h3] at h
    by_cases h6 : 63 < (b.getD pos 0).toNat
    · rw [if_pos h6] at h; cases h
    rw [if_neg h6] at h
    by_cases h7 : b.length < pos + 1 + (b.getD pos 0).toNat
    · rw [if_pos h7] at h; cases h
    rw [if_neg h7] at h
    by_cases h8 : 255 < out.length + 1 + (b.getD pos 0).toNat + 1
    · rw [if_pos h8] at h; cases h
    rw [if_neg h8] at h
    have hm := dnM_lab (b := b) (pos := pos) (start := start) (k := 1 + (b.getD pos 0).toNat) (by omega) (by omega)
    rw [← Nat.add_assoc] at hm
    match n, hn with
    | 0, hn => omega
    | n + 1, hn =>
      have := dn_fwd b n _ _ _ _ s q (by omega) h
      have e3 : nx.getD pos ≤ nx.getD (pos + 1 + (b.getD pos 0).toNat) := by
        cases nx with
        | none => simp only [Option.getD_none]; omega
        | some k => exact Nat.le_refl _
      omega
theorem dn_far {b s : List UInt8} {p q : Nat} (h : dn b p p none [] = .ok (s, q)) : p ≤ q := dn_fwd b _ p p none [] s q (Nat.le_refl _) h
/-- What a form's parts take at most. -/
def wtF : List UInt8 → Nat
  | [] => 0
  | f :: fs => (if f = 98 then 1 else 255) + wtF fs
theorem wtF_app : ∀ (a b : List UInt8), wtF (a ++ b) = wtF a + wtF b
  | [], b => by simp [wtF]
  | f :: fs, b => by
    rw [List.cons_append, wtF, wtF, wtF_app fs b]; omega
theorem wtF_rep {f : UInt8} : ∀ (k : Nat), wtF (List.replicate k f) = k * (if f = 98 then 1 else 255)
  | 0 => by simp [wtF]
  | k + 1 => by
    rw [List.replicate_succ, wtF, wtF_rep k, Nat.succ_mul]; omega
theorem ptGo_wt {l : List UInt8} {e : Nat} : ∀ {fs : List UInt8} {p : Nat} {out d : List UInt8}, ptGo l e fs p out = .ok d → d.length ≤ out.length + wtF fs
  | [], p, out, d, h => by
    rw [ptGo] at h
    split at h
    · injection h with h; subst h; simp [wtF]
    · cases h
  | f :: fs, p, out, d, h => by
    rw [ptGo] at h
    rw [wtF]
    by_cases hf : f = 98
    · rw [if_pos hf] at h
      rw [if_pos hf]
      by_cases hp : e ≤ p
      · rw [if_pos hp] at h; cases h
      · rw [if_neg hp] at h
        have := ptGo_wt h
        rw [List.length_append, List.length_singleton] at this
        omega
    · rw [if_neg hf] at h
      rw [if_neg hf]
      cases hd : dn l p p none [] with
      | error c' => rw [hd] at h; cases h
      | ok r =>
        obtain ⟨s, q⟩ := r
        rw [hd] at h
        simp only at h
        by_cases hq : e < q
        · rw [if_pos hq] at h; cases h
        · rw [if_neg hq] at h
          have := ptGo_wt h
          have := (dn_name hd).2.1
          rw [List.length_append] at *
          omega
theorem recR_sz {l : List UInt8} {p q : Nat} {r : Rr} (h : recR l p = .ok (r, q)) : p ≤ q ∧ q ≤ l.length ∧ r.o.length ≤ 255 ∧ r.d.length + p ≤ 532 + q := by
  unfold recR at h
  cases hd : dn l p p none [] with
  | error c' => rw [hd] at h; cases h
  | ok x =>
    obtain ⟨o, k⟩ := x
    rw [hd] at h
    simp only at h
    obtain ⟨-, d2, d3⟩ := dn_name hd
    have d4 := dn_far hd
    split at h
    · cases h
    · split at h
      · cases h
      · rename_i h1 h2
        cases hx : datR l (b2 l k : Nat) (k + 10) (k + 10 + b2 l (k + 8)) with
        | error c' => rw [hx] at h; cases h
        | ok d =>
          rw [hx] at h
          injection h with h
          injection h with h h'
          subst h h'
          refine ⟨by omega, by omega, d2, ?_⟩
          show d.length + p ≤ _
          unfold datR at hx
          split at hx
          · injection hx with hx; subst hx; rw [List.length_nil]; omega
          · split at hx
            · rename_i hp
              have a := ptGo_wt hx
              rw [pt_form hp, wtF_app, wtF_app, wtF_rep, wtF_rep, wtF_rep, if_pos rfl, if_neg (by decide)] at a
              obtain ⟨-, -, s3, s4, s5⟩ := pt_sm hp
              simp only [List.length_nil] at a
              omega
            · split at hx
              · injection hx with hx; subst hx
                rw [List.length_take]; omega
              · cases hx
theorem recR_far {l : List UInt8} {p q : Nat} {r : Rr} (h : recR l p = .ok (r, q)) : p ≤ q := (recR_sz h).1
theorem tot_snoc {α : Type} {w : α → Nat} : ∀ {xs : List α} {x : α}, tot' w (xs ++ [x]) = tot' w xs + w x
  | [], x => by simp [tot']
  | y :: xs, x => by
    rw [List.cons_append, tot', tot', tot_snoc]; omega
theorem qsR_bnd {l : List UInt8} : ∀ {k p q : Nat} {acc xs : List Qn}, qsR l k p acc = .ok (xs, q) → p ≤ l.length → xs.length = acc.length + k ∧ tot' w_Question xs ≤ tot' w_Question acc + 255 * k ∧ p ≤ q ∧ q ≤ l.length
  | 0, p, q, acc, xs, h, hp => by
    rw [qsR] at h
    injection h with h
    injection h with h h'
    subst h h'
    exact ⟨rfl, by omega, Nat.le_refl _, hp⟩
  | k + 1, p, q, acc, xs, h, hp => by
    rw [qsR] at h
    cases hd : dn l p p none [] with
    | error c => rw [hd] at h; cases h
    | ok x =>
      obtain ⟨s, j⟩ := x
      rw [hd] at h
      simp only at h
      split at h
      · cases h
      rename_i hh
      obtain ⟨-, d2, -⟩ := dn_name hd
      have d4 := dn_far hd
      obtain ⟨a1, a2, a3, a4⟩ := qsR_bnd h (by omega)
      rw [List.length_append, List.length_singleton] at a1
      rw [tot_snoc] at a2
      simp only [w_Question] at a2
      exact ⟨by omega, by omega, by omega, a4⟩
theorem rsR_bnd {l : List UInt8} : ∀ {k p la q lb : Nat} {acc xs : List Rr}, rsR l k p la acc = .ok (xs, q, lb) → p ≤ l.length → xs.length = acc.length + k ∧ tot' w_RR xs + p ≤ tot' w_RR acc + 787 * k + q ∧ p ≤ q ∧ q ≤ l.length ∧ (k = 0 → lb = la) ∧ (k ≠ 0 → p ≤ lb ∧ lb ≤ l.length)
  | 0, p, la, q, lb, acc, xs, h, hp => by
    rw [rsR] at h
    injection h with h
    injection h with h h'
    injection h' with h' h''
    subst h h' h''
    exact ⟨rfl, by omega, Nat.le_refl _, hp, fun _ => rfl, fun h => absurd rfl h⟩
  | k + 1, p, la, q, lb, acc, xs, h, hp => by
    rw [rsR] at h
    cases hd : recR l p with
    | error c => rw [hd] at h; cases h
    | ok x =>
      obtain ⟨r, j⟩ := x
      rw [hd] at h
      simp only at h
      obtain ⟨d1, d2, d3, d4⟩ := recR_sz hd
      obtain ⟨a1, a2, a3, a4, a5, a6⟩ := rsR_bnd h d2
      rw [List.length_append, List.length_singleton] at a1
      rw [tot_snoc] at a2
      simp only [w_RR] at a2
      refine ⟨by omega, by omega, by omega, a4, fun h => absurd h (by omega), fun _ => ?_⟩
      by_cases hk : k = 0
      · rw [a5 hk]; exact ⟨Nat.le_refl _, hp⟩
      · obtain ⟨b1, b2⟩ := a6 hk
        exact ⟨by omega, b2⟩
theorem msgR_bnd {l : List UInt8} {m : Msg} {la : Nat} (h : msgR l = .ok (m, la)) : l.length ≤ 65535 ∧ 12 ≤ l.length ∧ szM m ≤ 1048576 ∧ m.q.length ≤ 400 ∧ m.an.length ≤ 400 ∧ m.au.length ≤ 400 ∧ m.ex.length ≤ 400 ∧ (m.ex ≠ [] → 12 ≤ la ∧ la ≤ l.length) ∧ m.h = hdOf (l.take 12) ∧ m.ex.length = b2 l 10 := by
  unfold msgR at h
  split at h
  · cases h
  split at h
  · cases h
  split at h
  · cases h
  unfold msgQ at h
  split at h
  · cases h
  rename_i qs p1 h1
  have g1 := qsR_bnd h1 (by omega)
  unfold msgA at h
  split at h
  · cases h
  rename_i an p2 la2 h2
  unfold msgB at h
  split at h
  · cases h
  rename_i au p3 la3 h3
  unfold msgC at h
  split at h
  · cases h
  rename_i ex p4 la4 h4
  split at h
  · injection h with h
    injection h with h h'
    subst h h'
    have g2 := rsR_bnd h2 (by omega)
    have g3 := rsR_bnd h3 (by omega)
    have g4 := rsR_bnd h4 (by omega)
    simp only [List.length_nil, Nat.zero_add, show tot' w_RR [] = 0 from rfl, show tot' w_Question [] = 0 from rfl] at g1 g2 g3 g4
    obtain ⟨a1, a2, a3, a4⟩ := g1
    obtain ⟨b1, b2', b3, b4, -, -⟩ := g2
    obtain ⟨c1, c2, c3, c4, -, -⟩ := g3
    obtain ⟨e1, e2, e3, e4, -, e5⟩ := g4
    refine ⟨by omega, by omega, ?_, ?_, ?_, ?_, ?_, fun hne => ?_, rfl, e1⟩
    · unfold szM
      simp only
      omega
    · simp only; omega
    · simp only; omega
    · simp only; omega
    · simp only; omega
    · have hk : b2 l 10 ≠ 0 := fun e => hne (List.eq_nil_of_length_eq_zero (by simp only; omega))
      obtain ⟨f1, f2⟩ := e5 hk
      exact ⟨by omega, f2⟩
  · cases h
end Go.Vm
/- Signatures looked at without keys: when a message's signature is ill formed. No program in sight. -/
namespace Go.Vm
set_option linter.unusedVariables false
set_option linter.unusedSimpArgs false
def is250 (r : Rr) : Bool := decide (r.t = 250)
def strayB (m : Msg) : Bool := m.an.any is250 || (m.au.any is250 || (m.ex.take (m.ex.length - 1)).any is250)
def dOK (r : Rr) : Bool := decide (r.c = 255 ∧ r.ttl = 0 ∧ (r.d.length = 61 ∧ (r.d.take 13).map low = algN) ∧ (r.d.drop 21).take 2 = [0, 32] ∧ r.d.drop 57 = [0, 0, 0, 0])
def lastB (m : Msg) : Bool := match m.ex.getLast? with
  | none => false
  | some r => is250 r && !dOK r
def vfM (m : Msg) : Bool := strayB m || lastB m
/-- Ill form: of a message that is read, or because it isn't. -/
def vfB (l : List UInt8) : Bool := match msgR l with
  | .error _ => true
  | .ok (m, _) => vfM m
theorem any_snoc {p : Rr → Bool} {xs : List Rr} {i : Nat} (hi : i < xs.length) : (xs.take (i + 1)).any p = ((xs.take i).any p || p xs[i]) := by
  rw [← List.take_append_getElem hi, List.any_append]
  simp
theorem any_hit {p : Rr → Bool} {xs : List Rr} {i : Nat} (hi : i < xs.length) (h : p xs[i] = true) : xs.any p = true := List.any_eq_true.2 ⟨_, List.getElem_mem hi, h⟩
theorem low_num {b : UInt8} (h : (low b).toNat < 65) : low b = b := by
  unfold low at h ⊢
  by_cases c : 65 ≤ b.toNat ∧ b.toNat ≤ 90
  · rw [if_pos c, UInt8.toNat_add, show (32 : UInt8).toNat = 32 from rfl] at h
    omega
  · rw [if_neg c]
theorem foldN_alg : foldN algN = algN := by
  have : (nameL algN).isSome = true := by
    unfold nameL algN
    rw [if_neg (by decide)]
    simp [labGo]
  unfold foldN
  cases h : nameL algN with
  | none => rw [h] at this; cases this
  | some ls => rfl
theorem take_of_len {l : List UInt8} {k n : Nat} (h : (l.take k).length = n) : l.take k = l.take n := by
  rw [List.length_take] at h
  subst h
  rcases Nat.le_total k l.length with h | h
  · rw [Nat.min_eq_left h]
  · rw [Nat.min_eq_right h, List.take_of_length_le h, List.take_of_length_le (Nat.le_refl _)]
theorem nm13 {d : List UInt8} (hl : d.length = 61) (h : (d.take 13).map low = algN) : nmAt d = 13 := by
  have g : ∀ i x, i < 13 → algN.getD i 0 = x → x.toNat < 65 → d.getD i 0 = x := by
    intro i x hi hx hx2
    have e : ((d.take 13).map low).getD i 0 = x := by rw [h]; exact hx
    have hi' : i < d.length := by omega
    have e2 : ((d.take 13).map low).getD i 0 = low (d.getD i 0) := by
      simp [List.getD, List.getElem?_eq_getElem hi', hi]
    rw [e2] at e
    rw [← e]
    exact (low_num (by rw [e]; exact hx2)).symm
  have g0 := g 0 11 (by omega) rfl (by decide)
  have g12 := g 12 0 (by omega) rfl (by decide)
  have n11 : (11 : UInt8).toNat = 11 := rfl
  have n0 : (0 : UInt8).toNat = 0 := rfl
  unfold nmAt
  have a := nmGo_at (s := d) (i := 0) (by omega)
  rw [g0, n11, if_neg (by omega), if_neg (by omega), List.drop_zero] at a
  rw [a]
  have b := nmGo_at (s := d) (i := 12) (by omega)
  rw [g12, n0, if_pos rfl, if_neg (by omega)] at b
  exact b
theorem dt_law {d : List UInt8} : ((foldN (d.take (nmAt d)) ≠ [] ∧ foldN (d.take (nmAt d)) = foldN algN) ∧ (d.drop (d.take (nmAt d)).length).length = 48) ↔ (d.length = 61 ∧ (d.take 13).map low = algN) := by
  rw [foldN_alg]
  constructor
  · rintro ⟨⟨h1, h2⟩, h3⟩
    have e : foldN (d.take (nmAt d)) = (d.take (nmAt d)).map low := by
      unfold foldN at h1 ⊢
      cases h : nameL (d.take (nmAt d)) with
      | none => rw [h] at h1; exact absurd rfl h1
      | some ls => rfl
    rw [e] at h2
    have hl : (d.take (nmAt d)).length = 13 := by rw [← List.length_map low, h2]; rfl
    rw [hl, List.length_drop] at h3
    rw [take_of_len hl] at h2
    exact ⟨by omega, h2⟩
  · rintro ⟨h1, h2⟩
    have hn := nm13 h1 h2
    have hs := nmAt_lab (d := d) (by omega)
    rw [hn] at hs ⊢
    have hl : (d.take 13).length = 13 := by rw [List.length_take]; omega
    have e : foldN (d.take 13) = algN := by
      unfold foldN nameL
      rw [if_neg (by omega)]
      cases h : labGo (d.take 13) with
      | none => rw [h] at hs; cases hs
      | some ls => exact h2
    rw [e, hl, List.length_drop]
    exact ⟨⟨by decide, rfl⟩, by omega⟩
theorem dt_len {d : List UInt8} (h : d.length = 61 ∧ (d.take 13).map low = algN) : (d.take (nmAt d)).length = 13 := by
  rw [nm13 h.1 h.2, List.length_take]; omega
end Go.Vm
/- Signatures looked at without keys: the specification's parts. -/
namespace Go.Vm
set_option linter.unusedVariables false
set_option linter.unusedSimpArgs false
def T_Stray (C : Tab) (f : Nat) : Prop := ∀ (q a b c : AV) (m : Msg) (H : AH), MsgS H q a b c m → m.an.length ≤ 1099511627776 → m.au.length ≤ 1099511627776 → m.ex.length ≤ 1099511627776 → C f [mV m.h q a b c] H = some (.b (strayB m), H)
def DtPost (r : Rr) (H : AH) (v : AV) (H' : AH) : Prop := Ext H H' ∧ if dOK r = true then ∃ a s0 s1 s2 s3, v = .tp [a, .b true] ∧ Sl H' 1 a [.s s0, .s s1, .s s2, .s s3] ∧ s3.length ≤ 100 ∧ s2.length ≤ 100 else v = .tp [.ns, .b false]
def T_l09Data (C : Tab) (f : Nat) : Prop := ∀ (r : Rr) (H : AH), r.d.length ≤ 1099511627776 → ∃ v H', C f [eR.v r] H = some (v, H') ∧ DtPost r H v H'
section
variable {C : Tab}
set_option maxHeartbeats 1000000 in
theorem r_Stray {q a b c : AV} {m : Msg} {H : AH} (h : MsgS H q a b c m) (hn1 : m.an.length ≤ 1099511627776) (hn2 : m.au.length ≤ 1099511627776) (hn3 : m.ex.length ≤ 1099511627776) : Runs C c_spec_l09Stray [mV m.h q a b c] H fun v H' => H' = H ∧ v = .b (strayB m) := by
  unfold Runs c_spec_l09Stray mV
  have o1 := h.hq.out
  have o2 := h.ha.out
  have o3 := h.hb.out
  have o4 := h.hc.out
  obtain ⟨a1, a2⟩ := h.ha.len
  obtain ⟨a3, a4⟩ := h.hb.len
  obtain ⟨a5, a6⟩ := h.hc.len
  simp -implicitDefEqProofs only [bU, reduceIte, Nat.reduceEqDiff, reduceCtorEq, implies_true, forall_const, eq_self, Nat.reduceAdd, Nat.reduceLT, bne_self_eq_false, bT, eq_self, true_implies, false_implies, forall_const, if_true, if_false, Int.reduceToNat, Nat.reduceSub, Int.reduceLE, bV, Nat.reduceAdd, Nat.reduceLT, Nat.reduceLeDiff, Nat.reduceLeDiff, o1, o2, o3, o4]
  refine exec_loop (fun n e M => ∃ (i : Nat) (L : List Lv) (g : Nat), i ≤ m.an.length ∧ n = m.an.length - i ∧ look e 1 = .la 1 0 0 0 ∧ look e 3 = .i .i64 i ∧ M = ⟨L, g, H⟩ ∧ keepL [1, 3] L = [⟨1, 0, 0, [mV m.h q a b c]⟩] ∧ (m.an.take i).any is250 = false) ?_ (n := m.an.length) ⟨0, _, _, by omega, by omega, rfl, rfl, rfl, rfl, rfl⟩
  rintro n e M ⟨i, L, g, hi, rfl, q1, q3, rfl, hL, hf⟩
  unfold mV at hL
  by_cases hlt : (i : Int) < m.an.length
  · have hil : i < m.an.length := by omega
    obtain ⟨b1, b2, b3, b4, b5⟩ := Sx.fdn (z := 5) h.ha rfl hil (off := 1) (by decide)
    have b5' := fun (L : List Lv) (g : Nat) => (b5 L g).trans (show _ = AV.i .i64 m.an[i].t from rfl)
    have hs := any_snoc (p := is250) hil
    have w9 : IntKind.i64.wrap ((i : Int) + 1) = ((i + 1 : Nat) : Int) := by rw [w64 (by omega) (by omega)]; rfl
    by_cases ht : (m.an[i]).t = 250
    · have hr : strayB m = true := by rw [strayB, any_hit hil (by rw [is250, decide_eq_true_eq]; exact ht)]; rfl
      simp -implicitDefEqProofs only [bU, reduceIte, Nat.reduceEqDiff, reduceCtorEq, implies_true, forall_const, eq_self, Nat.reduceAdd, Nat.reduceLT, bne_self_eq_false, bT, eq_self, true_implies, false_implies, forall_const, if_true, if_false, Int.reduceToNat, Nat.reduceSub, Int.reduceLE, bV, Nat.reduceAdd, Nat.reduceLT, Nat.reduceLeDiff, Nat.reduceLeDiff, q1, q3, hL, a1, a2, hlt, toNat_nat, b1, b2, b3, b4, b5', ht, hr, endK, rsC, rsV, resV]
    · rw [hf, is250, decide_eq_false ht] at hs
      simp -implicitDefEqProofs only [bU, reduceIte, Nat.reduceEqDiff, reduceCtorEq, implies_true, forall_const, eq_self, Nat.reduceAdd, Nat.reduceLT, bne_self_eq_false, bT, eq_self, true_implies, false_implies, forall_const, if_true, if_false, Int.reduceToNat, Nat.reduceSub, Int.reduceLE, bV, Nat.reduceAdd, Nat.reduceLT, Nat.reduceLeDiff, Nat.reduceLeDiff, q1, q3, hL, a1, a2, hlt, toNat_nat, b1, b2, b3, b4, b5', ht, w9]
      exact ⟨m.an.length - (i + 1), by omega, i + 1, _, _, by omega, rfl, rfl, rfl, rfl, hs⟩
  have r1 : m.an.any is250 = false := by rwa [List.take_of_length_le (by omega)] at hf
  simp -implicitDefEqProofs only [bU, reduceIte, Nat.reduceEqDiff, reduceCtorEq, implies_true, forall_const, eq_self, Nat.reduceAdd, Nat.reduceLT, bne_self_eq_false, bT, eq_self, true_implies, false_implies, forall_const, if_true, if_false, Int.reduceToNat, Nat.reduceSub, Int.reduceLE, bV, Nat.reduceAdd, Nat.reduceLT, Nat.reduceLeDiff, Nat.reduceLeDiff, q1, q3, hL, a1, a2, hlt]
  refine exec_loop (fun n e M => ∃ (i : Nat) (L : List Lv) (g : Nat), i ≤ m.au.length ∧ n = m.au.length - i ∧ look e 1 = .la 1 0 0 0 ∧ look e 4 = .i .i64 i ∧ M = ⟨L, g, H⟩ ∧ keepL [1, 4] L = [⟨1, 0, 0, [mV m.h q a b c]⟩] ∧ (m.au.take i).any is250 = false) ?_ (n := m.au.length) ⟨0, _, _, by omega, by omega, rfl, rfl, rfl, rfl, rfl⟩
  clear q1 q3 hL hf hlt hi
  rintro n e M ⟨i, L, g, hi, rfl, q1, q3, rfl, hL, hf⟩
  unfold mV at hL
  by_cases hlt : (i : Int) < m.au.length
  · have hil : i < m.au.length := by omega
    obtain ⟨b1, b2, b3, b4, b5⟩ := Sx.fdn (z := 5) h.hb rfl hil (off := 1) (by decide)
    have b5' := fun (L : List Lv) (g : Nat) => (b5 L g).trans (show _ = AV.i .i64 m.au[i].t from rfl)
    have hs := any_snoc (p := is250) hil
    have w9 : IntKind.i64.wrap ((i : Int) + 1) = ((i + 1 : Nat) : Int) := by rw [w64 (by omega) (by omega)]; rfl
    by_cases ht : (m.au[i]).t = 250
    · have hr : strayB m = true := by rw [strayB, r1, any_hit hil (by rw [is250, decide_eq_true_eq]; exact ht)]; rfl
      simp -implicitDefEqProofs only [bU, reduceIte, Nat.reduceEqDiff, reduceCtorEq, implies_true, forall_const, eq_self, Nat.reduceAdd, Nat.reduceLT, bne_self_eq_false, bT, eq_self, true_implies, false_implies, forall_const, if_true, if_false, Int.reduceToNat, Nat.reduceSub, Int.reduceLE, bV, Nat.reduceAdd, Nat.reduceLT, Nat.reduceLeDiff, Nat.reduceLeDiff, q1, q3, hL, a3, a4, hlt, toNat_nat, b1, b2, b3, b4, b5', ht, hr, endK, rsC, rsV, resV]
    · rw [hf, is250, decide_eq_false ht] at hs
      simp -implicitDefEqProofs only [bU, reduceIte, Nat.reduceEqDiff, reduceCtorEq, implies_true, forall_const, eq_self, Nat.reduceAdd, Nat.reduceLT, bne_self_eq_false, bT, eq_self, true_implies, false_implies, forall_const, if_true, if_false, Int.reduceToNat, Nat.reduceSub, Int.reduceLE, bV, Nat.reduceAdd, Nat.reduceLT, Nat.reduceLeDiff, Nat.reduceLeDiff, q1, q3, hL, a3, a4, hlt, toNat_nat, b1, b2, b3, b4, b5', ht, w9]
      exact ⟨m.au.length - (i + 1), by omega, i + 1, _, _, by omega, rfl, rfl, rfl, rfl, hs⟩
  have r2 : m.au.any is250 = false := by rwa [List.take_of_length_le (by omega)] at hf
  simp -implicitDefEqProofs only [bU, reduceIte, Nat.reduceEqDiff, reduceCtorEq, implies_true, forall_const, eq_self, Nat.reduceAdd, Nat.reduceLT, bne_self_eq_false, bT, eq_self, true_implies, false_implies, forall_const, if_true, if_false, Int.reduceToNat, Nat.reduceSub, Int.reduceLE, bV, Nat.reduceAdd, Nat.reduceLT, Nat.reduceLeDiff, Nat.reduceLeDiff, q1, q3, hL, a3, a4, hlt]
  have w0 : IntKind.i64.wrap ((m.ex.length : Int) - 1) = (m.ex.length : Int) - 1 := w64 (by omega) (by omega)
  refine exec_loop (fun n e M => ∃ (i : Nat) (L : List Lv) (g : Nat), i ≤ m.ex.length ∧ n = m.ex.length - i ∧ look e 1 = .la 1 0 0 0 ∧ look e 5 = .i .i64 i ∧ M = ⟨L, g, H⟩ ∧ keepL [1, 5] L = [⟨1, 0, 0, [mV m.h q a b c]⟩] ∧ (m.ex.take i).any is250 = false) ?_ (n := m.ex.length) ⟨0, _, _, by omega, by omega, rfl, rfl, rfl, rfl, rfl⟩
  clear q1 q3 hL hf hlt hi
  rintro n e M ⟨i, L, g, hi, rfl, q1, q3, rfl, hL, hf⟩
  unfold mV at hL
  by_cases hlt : (i : Int) < (m.ex.length : Int) - 1
  · have hil : i < m.ex.length := by omega
    obtain ⟨b1, b2, b3, b4, b5⟩ := Sx.fdn (z := 5) h.hc rfl hil (off := 1) (by decide)
    have b5' := fun (L : List Lv) (g : Nat) => (b5 L g).trans (show _ = AV.i .i64 m.ex[i].t from rfl)
    have hs := any_snoc (p := is250) hil
    have w9 : IntKind.i64.wrap ((i : Int) + 1) = ((i + 1 : Nat) : Int) := by rw [w64 (by omega) (by omega)]; rfl
    by_cases ht : (m.ex[i]).t = 250
    · have hr : strayB m = true := by
        have e : (m.ex.take (m.ex.length - 1)).any is250 = true := by
          have hi2 : i < (m.ex.take (m.ex.length - 1)).length := by rw [List.length_take]; omega
          refine any_hit hi2 ?_
          rw [List.getElem_take, is250, decide_eq_true_eq]; exact ht
        rw [strayB, r1, r2, e]; rfl
      simp -implicitDefEqProofs only [bU, reduceIte, Nat.reduceEqDiff, reduceCtorEq, implies_true, forall_const, eq_self, Nat.reduceAdd, Nat.reduceLT, bne_self_eq_false, bT, eq_self, true_implies, false_implies, forall_const, if_true, if_false, Int.reduceToNat, Nat.reduceSub, Int.reduceLE, bV, Nat.reduceAdd, Nat.reduceLT, Nat.reduceLeDiff, Nat.reduceLeDiff, q1, q3, hL, a5, a6, w0, hlt, toNat_nat, b1, b2, b3, b4, b5', ht, hr, endK, rsC, rsV, resV]
    · rw [hf, is250, decide_eq_false ht] at hs
      simp -implicitDefEqProofs only [bU, reduceIte, Nat.reduceEqDiff, reduceCtorEq, implies_true, forall_const, eq_self, Nat.reduceAdd, Nat.reduceLT, bne_self_eq_false, bT, eq_self, true_implies, false_implies, forall_const, if_true, if_false, Int.reduceToNat, Nat.reduceSub, Int.reduceLE, bV, Nat.reduceAdd, Nat.reduceLT, Nat.reduceLeDiff, Nat.reduceLeDiff, q1, q3, hL, a5, a6, w0, hlt, toNat_nat, b1, b2, b3, b4, b5', ht, w9]
      exact ⟨m.ex.length - (i + 1), by omega, i + 1, _, _, by omega, rfl, rfl, rfl, rfl, hs⟩
  have r3 : (m.ex.take (m.ex.length - 1)).any is250 = false := by
    rw [List.any_eq_false] at hf ⊢
    intro x hx
    exact hf x (List.take_subset_take_left _ (by omega) hx)
  have hr : strayB m = false := by rw [strayB, r1, r2, r3]; rfl
  simp -implicitDefEqProofs only [bU, reduceIte, Nat.reduceEqDiff, reduceCtorEq, implies_true, forall_const, eq_self, Nat.reduceAdd, Nat.reduceLT, bne_self_eq_false, bT, eq_self, true_implies, false_implies, forall_const, if_true, if_false, Int.reduceToNat, Nat.reduceSub, Int.reduceLE, bV, Nat.reduceAdd, Nat.reduceLT, Nat.reduceLeDiff, Nat.reduceLeDiff, q1, q3, hL, a5, a6, w0, hlt, hr, endK, rsC, rsV, resV]
set_option maxHeartbeats 1000000 in
theorem r_l09Data {r : Rr} {H : AH} (hN : T_nmS C n_spec_l02NameAt) (hA : T_alg C n_spec_l09Algorithm) (hS : T_same C n_spec_SameName) (hd : r.d.length ≤ 1099511627776) : Runs C c_spec_l09Data [eR.v r] H (DtPost r H) := by
  unfold Runs c_spec_l09Data
  simp only [eR, Enc.v]
  have k1 := hN r.d H hd
  have hle : (r.d.take (nmAt r.d)).length ≤ r.d.length := by rw [List.length_take]; omega
  have l1 : ((r.d.take (nmAt r.d)).length : Int) ≤ r.d.length := by omega
  have l0 : (0 : Int) ≤ ((r.d.take (nmAt r.d)).length : Int) := by omega
  obtain ⟨v2, H1, k2, rfl, e1⟩ := hA H
  obtain ⟨v3, H2, k3, rfl, e2⟩ := hS (r.d.take (nmAt r.d)) algN H1 (by omega) (by decide)
  have law := dt_law (d := r.d)
  have len := dt_len (d := r.d)
  generalize hN' : r.d.take (nmAt r.d) = N at *
  have hdl : (r.d.drop N.length).length ≤ 1099511627776 := by rw [List.length_drop]; omega
  have x0 : (r.d.drop N.length).take (r.d.length - N.length) = r.d.drop N.length := List.take_of_length_le (by rw [List.length_drop]; omega)
  by_cases h1 : r.c = 255
  rotate_left
  · have hr : dOK r = false := decide_eq_false fun h => h1 h.1
    simp -implicitDefEqProofs only [bU, reduceIte, Nat.reduceEqDiff, reduceCtorEq, implies_true, forall_const, eq_self, Nat.reduceAdd, Nat.reduceLT, bne_self_eq_false, bT, eq_self, true_implies, false_implies, forall_const, if_true, if_false, Int.reduceToNat, Nat.reduceSub, Int.reduceLE, bV, Nat.reduceAdd, Nat.reduceLT, Nat.reduceLeDiff, Nat.reduceLeDiff, k1, l0, l1, toNat_nat, h1, endK, rsC, rsV, resV]
    refine ⟨.refl H, ?_⟩
    rw [if_neg (by rw [hr]; decide)]
  by_cases h2 : r.ttl = 0
  rotate_left
  · have hr : dOK r = false := decide_eq_false fun h => h2 h.2.1
    simp -implicitDefEqProofs only [bU, reduceIte, Nat.reduceEqDiff, reduceCtorEq, implies_true, forall_const, eq_self, Nat.reduceAdd, Nat.reduceLT, bne_self_eq_false, bT, eq_self, true_implies, false_implies, forall_const, if_true, if_false, Int.reduceToNat, Nat.reduceSub, Int.reduceLE, bV, Nat.reduceAdd, Nat.reduceLT, Nat.reduceLeDiff, Nat.reduceLeDiff, k1, l0, l1, toNat_nat, h1, h2, endK, rsC, rsV, resV]
    refine ⟨.refl H, ?_⟩
    rw [if_neg (by rw [hr]; decide)]
  by_cases h3 : foldN N ≠ [] ∧ foldN N = foldN algN
  rotate_left
  · have hr : dOK r = false := decide_eq_false fun h => h3 (law.2 h.2.2.1).1
    rw [decide_eq_false h3] at k3
    simp -implicitDefEqProofs only [bU, reduceIte, Nat.reduceEqDiff, reduceCtorEq, implies_true, forall_const, eq_self, Nat.reduceAdd, Nat.reduceLT, bne_self_eq_false, bT, eq_self, true_implies, false_implies, forall_const, if_true, if_false, Int.reduceToNat, Nat.reduceSub, Int.reduceLE, bV, Nat.reduceAdd, Nat.reduceLT, Nat.reduceLeDiff, Nat.reduceLeDiff, k1, k2, k3, l0, l1, toNat_nat, h1, h2, endK, rsC, rsV, resV]
    refine ⟨e1.trans e2, ?_⟩
    rw [if_neg (by rw [hr]; decide)]
  rw [decide_eq_true h3] at k3
  by_cases h4 : (r.d.drop N.length).length = 48
  rotate_left
  · have hr : dOK r = false := decide_eq_false fun h => h4 (law.2 h.2.2.1).2
    have h4' : ¬ ((r.d.drop N.length).length : Int) = 48 := by omega
    simp -implicitDefEqProofs only [bU, reduceIte, Nat.reduceEqDiff, reduceCtorEq, implies_true, forall_const, eq_self, Nat.reduceAdd, Nat.reduceLT, bne_self_eq_false, bT, eq_self, true_implies, false_implies, forall_const, if_true, if_false, Int.reduceToNat, Nat.reduceSub, Int.reduceLE, bV, Nat.reduceAdd, Nat.reduceLT, Nat.reduceLeDiff, Nat.reduceLeDiff, k1, k2, k3, l0, l1, toNat_nat, x0, h1, h2, h4', endK, rsC, rsV, resV]
    refine ⟨e1.trans e2, ?_⟩ -- X4
    rw [if_neg (by rw [hr]; decide)]
  have h34 := law.1 ⟨h3, h4⟩
  have hn := len h34
  rw [hn] at h4 x0
  have h4' : (((r.d.drop 13).length : Int) = 48) = True := eq_true (by omega)
  have g8 : (10 : Int) ≤ ((r.d.drop 13).length : Int) := by omega
  have g44 : (44 : Int) ≤ ((r.d.drop 13).length : Int) := by omega
  have g6 : (6 : Int) ≤ ((r.d.drop 13).length : Int) := by omega
  have g68 : (8 : Int) ≤ ((r.d.drop 13).length : Int) := by omega
  have g42 : (42 : Int) ≤ ((r.d.drop 13).length : Int) := by omega
  have x1 : ((r.d.drop 13).drop 8).take 2 = (r.d.drop 21).take 2 := by rw [List.drop_drop]
  have x2 : (r.d.drop 13).drop 44 = r.d.drop 57 := by rw [List.drop_drop]
  have x3 : (r.d.drop 57).take ((r.d.drop 13).length - 44) = r.d.drop 57 := List.take_of_length_le (by rw [List.length_drop]; omega)
  have x4 : (r.d.drop 13).take ((r.d.drop 13).length) = r.d.drop 13 := List.take_of_length_le (Nat.le_refl _)
  have l1' : (13 : Int) ≤ r.d.length := by omega
  have hn' : (N.length : Int) = 13 := by omega
  by_cases h5 : (r.d.drop 21).take 2 = [0, 32]
  rotate_left
  · have hr : dOK r = false := decide_eq_false fun h => h5 h.2.2.2.1
    simp -implicitDefEqProofs only [bU, reduceIte, Nat.reduceEqDiff, reduceCtorEq, implies_true, forall_const, eq_self, Nat.reduceAdd, Nat.reduceLT, bne_self_eq_false, bT, eq_self, true_implies, false_implies, forall_const, if_true, if_false, Int.reduceToNat, Nat.reduceSub, Int.reduceLE, bV, Nat.reduceAdd, Nat.reduceLT, Nat.reduceLeDiff, Nat.reduceLeDiff, k1, k2, k3, hn', l1', toNat_nat, Int.reduceToNat, Int.reduceLE, Nat.reduceSub, h1, h2, h4', g8, x0, x1, x4, h5, endK, rsC, rsV, resV]
    refine ⟨e1.trans e2, ?_⟩ -- X5
    rw [if_neg (by rw [hr]; decide)]
  by_cases h6 : r.d.drop 57 = [0, 0, 0, 0]
  rotate_left
  · have hr : dOK r = false := decide_eq_false fun h => h6 h.2.2.2.2
    simp -implicitDefEqProofs only [bU, reduceIte, Nat.reduceEqDiff, reduceCtorEq, implies_true, forall_const, eq_self, Nat.reduceAdd, Nat.reduceLT, bne_self_eq_false, bT, eq_self, true_implies, false_implies, forall_const, if_true, if_false, Int.reduceToNat, Nat.reduceSub, Int.reduceLE, bV, Nat.reduceAdd, Nat.reduceLT, Nat.reduceLeDiff, Nat.reduceLeDiff, k1, k2, k3, hn', l1', toNat_nat, Int.reduceToNat, Int.reduceLE, Nat.reduceSub, h1, h2, h4', g8, g44, x0, x1, x2, x3, x4, h5, h6, endK, rsC, rsV, resV]
    refine ⟨e1.trans e2, ?_⟩ -- X6
    rw [if_neg (by rw [hr]; decide)]
  have x5 : ([0, 0, 0, 0] : List UInt8).take ((r.d.drop 13).length - 44) = [0, 0, 0, 0] := by rw [h4]; rfl
  have hr : dOK r = true := decide_eq_true ⟨h1, h2, h34, h5, h6⟩
  simp -implicitDefEqProofs only [bU, reduceIte, Nat.reduceEqDiff, reduceCtorEq, implies_true, forall_const, eq_self, Nat.reduceAdd, Nat.reduceLT, bne_self_eq_false, bT, eq_self, true_implies, false_implies, forall_const, if_true, if_false, Int.reduceToNat, Nat.reduceSub, Int.reduceLE, bV, Nat.reduceAdd, Nat.reduceLT, Nat.reduceLeDiff, Nat.reduceLeDiff, lgAt, isRd, k1, k2, k3, hn', l1', toNat_nat, Int.reduceToNat, Int.reduceLE, Nat.reduceSub, h1, h2, h4', g8, g44, g6, g68, g42, x0, x1, x2, x3, x4, x5, h5, h6, fillEC, fillE, List.replicate, List.set, endK, rsC, rsV, resV]
  refine ⟨(e1.trans e2).trans (.new _ _), ?_⟩
  rw [if_pos hr]
  exact ⟨_, _, _, _, _, rfl, (Mn.own (z := 1) (xs := [.s _, .s _, .s _, .s _]) (by simp [AV.cells]) new_at).sl, by rw [List.length_take]; omega, by rw [List.length_take]; omega⟩
end
end Go.Vm
/- Signatures looked at without keys: the specification's run. -/
namespace Go.Vm
set_option linter.unusedVariables false
set_option linter.unusedSimpArgs false
def VfPost (l : List UInt8) (H : AH) (v : AV) (H' : AH) : Prop := Ext H H' ∧ ∃ (c : Int) (s : Bool) (k : Int) (t : List UInt8) (b : AV), v = .ag [.i .i64 c, .b s, .i .i64 k, .s t, b] ∧ b.outs = true ∧ b.cells = [b] ∧ (c = 32 ↔ vfB l = true)
def T_Verify (C : Tab) (f : Nat) : Prop := ∀ (a : AV) (l : List UInt8) (H : AH), Byt H a l → Cl H a → l.length ≤ 1099511627776 → FormsOK H → ∃ v H', C f [a, .ns, .i .i64 0, .s []] H = some (v, H') ∧ VfPost l H v H'
theorem msgR_e {l : List UInt8} {c : Int} (h : msgR l = .error c) : c ≠ 0 := by
  have hr : ∀ {k p la : Nat} {acc : List Rr} {c : Int}, rsR l k p la acc = .error c → c ≠ 0 := by
    intro k
    induction k with
    | zero => intro p la acc c h; rw [rsR] at h; cases h
    | succ k ih =>
      intro p la acc c h
      rw [rsR] at h
      cases hd : recR l p with
      | error c' => rw [hd] at h; injection h with h; subst h; exact recR_e hd
      | ok x => rw [hd] at h; exact ih h
  have hq : ∀ {k p : Nat} {acc : List Qn} {c : Int}, qsR l k p acc = .error c → c ≠ 0 := by
    intro k
    induction k with
    | zero => intro p acc c h; rw [qsR] at h; cases h
    | succ k ih =>
      intro p acc c h
      rw [qsR] at h
      cases hd : dn l p p none [] with
      | error c' => rw [hd] at h; injection h with h; subst h; exact dn_e hd
      | ok x =>
        rw [hd] at h
        simp only at h
        split at h
        · injection h with h; omega
        · exact ih h
  unfold msgR at h
  split at h
  · injection h with h; omega
  split at h
  · injection h with h; omega
  split at h
  · injection h with h; omega
  unfold msgQ at h
  split at h
  · rename_i c' h1
    injection h with h; subst h; exact hq h1
  unfold msgA at h
  split at h
  · rename_i c' h1
    injection h with h; subst h; exact hr h1
  unfold msgB at h
  split at h
  · rename_i c' h1
    injection h with h; subst h; exact hr h1
  unfold msgC at h
  split at h
  · rename_i c' h1
    injection h with h; subst h; exact hr h1
  split at h
  · cases h
  · injection h with h; omega
def lsVf (h : Hd) (q a b c : AV) : List Lv := [⟨10, 2, 0, [mV h q a b c]⟩, ⟨9, 1, 0, [.ag [.i .i64 32, .b false, .i .i64 0, .s [], .ns]]⟩, ⟨8, 0, 0, [.ag [.i .i64 0, .b false, .i .i64 0, .s [], .ns]]⟩]
theorem last_eq {m : Msg} (h : m.ex.length - 1 < m.ex.length) : lastB m = (is250 m.ex[m.ex.length - 1] && !dOK m.ex[m.ex.length - 1]) := by
  unfold lastB
  rw [List.getLast?_eq_getElem?, List.getElem?_eq_getElem h]
theorem last_nil {m : Msg} (h : m.ex.length = 0) : lastB m = false := by
  unfold lastB
  rw [List.eq_nil_of_length_eq_zero h]; rfl
theorem VfPost.mk' {l : List UInt8} {H H' : AH} {c : Int} {s : Bool} {k : Int} {t : List UInt8} {b : AV} {r : Bool} (he : Ext H H') (ho : b.outs = true) (hc : b.cells = [b]) (hr : vfB l = r) (hcr : decide (c = 32) = r) : VfPost l H (.ag [.i .i64 c, .b s, .i .i64 k, .s t, b]) H' :=
  ⟨he, c, s, k, t, b, rfl, ho, hc, by rw [hr, ← hcr, decide_eq_true_eq]⟩
section
variable {C : Tab}
theorem r_specDecode {a : AV} {l : List UInt8} {H : AH} (hR : T_l04Read C n_spec_l04Read) (h : Byt H a l) (hc : Cl H a) (hl : l.length ≤ 1099511627776) : Runs C c_spec_Decode [a] H (DcPost (msgR l) H) := by
  unfold Runs c_spec_Decode
  have oa := h.out
  obtain ⟨v1, H1, k1, e1, hpost⟩ := hR a l H h hc hl
  cases hm : msgR l with
  | error c =>
    rw [hm] at hpost
    subst hpost
    simp only [mV, hd0] at k1
    simp -implicitDefEqProofs only [bU, reduceIte, Nat.reduceEqDiff, reduceCtorEq, implies_true, forall_const, eq_self, Nat.reduceAdd, Nat.reduceLT, bne_self_eq_false, bT, eq_self, true_implies, false_implies, forall_const, if_true, if_false, Int.reduceToNat, Nat.reduceSub, Int.reduceLE, bV, Nat.reduceAdd, Nat.reduceLT, Nat.reduceLeDiff, Nat.reduceLeDiff, oa, k1, endK, rsC, rsV, resV]
    exact ⟨e1, rfl⟩
  | ok x =>
    obtain ⟨m, la⟩ := x
    rw [hm] at hpost
    obtain ⟨q, a', b, c, rfl, hms⟩ := hpost
    have o1 := hms.hq.sl.out
    have o2 := hms.ha.sl.out
    have o3 := hms.hb.sl.out
    have o4 := hms.hc.sl.out
    simp only [mV] at k1
    simp -implicitDefEqProofs only [bU, reduceIte, Nat.reduceEqDiff, reduceCtorEq, implies_true, forall_const, eq_self, Nat.reduceAdd, Nat.reduceLT, bne_self_eq_false, bT, eq_self, true_implies, false_implies, forall_const, if_true, if_false, Int.reduceToNat, Nat.reduceSub, Int.reduceLE, bV, Nat.reduceAdd, Nat.reduceLT, Nat.reduceLeDiff, Nat.reduceLeDiff, oa, k1, o1, o2, o3, o4, endK, rsC, rsV, resV]
    exact ⟨e1, q, a', b, c, rfl, hms⟩
set_option maxRecDepth 100000 in
set_option maxHeartbeats 4000000 in
theorem r_specVerify {a : AV} {l : List UInt8} {H : AH} (hR : T_l04Read C n_spec_l04Read) (hI : T_in C n_spec_l04In) (hS : T_Stray C n_spec_l09Stray) (hD : T_l09Data C n_spec_l09Data) (hP : T_put2 C n_spec_l02Put)
    (h : Byt H a l) (hc : Cl H a) (hl : l.length ≤ 1099511627776) : Runs C c_spec_Verify [a, .ns, .i .i64 0, .s []] H (VfPost l H) := by
  unfold Runs c_spec_Verify
  have oa := h.out
  obtain ⟨v1, H1, k1, e1, hpost⟩ := hR a l H h hc hl
  have n1 : lenV .ns = .i .i64 0 := rfl
  have n2 : lenC .ns := trivial
  have hI0 : ∀ H, C n_spec_l04In [.i .i64 0, .i .i64 281474976710655] H = some (.b true, H) := fun H => hI 0 281474976710655 H
  cases hm : msgR l with
  | error c =>
    rw [hm] at hpost
    subst hpost
    have hc0 : c ≠ 0 := msgR_e hm
    have hv : vfB l = true := by unfold vfB; rw [hm]
    simp only [mV, hd0] at k1
    simp -implicitDefEqProofs only [bU, reduceIte, Nat.reduceEqDiff, reduceCtorEq, implies_true, forall_const, eq_self, Nat.reduceAdd, Nat.reduceLT, bne_self_eq_false, bT, eq_self, true_implies, false_implies, forall_const, if_true, if_false, Int.reduceToNat, Nat.reduceSub, Int.reduceLE, bV, Nat.reduceAdd, Nat.reduceLT, Nat.reduceLeDiff, Nat.reduceLeDiff, oa, k1, hc0, endK, rsC, rsV, resV]
    exact .mk' e1 rfl rfl hv rfl
  | ok x =>
    obtain ⟨m, la⟩ := x
    rw [hm] at hpost
    obtain ⟨q, a', b, c, rfl, hms⟩ := hpost
    obtain ⟨z1, z2, z3, z4, z5, z6, z7, z8, -, z10⟩ := msgR_bnd hm
    have o1 := hms.hq.sl.out
    have o2 := hms.ha.sl.out
    have o3 := hms.hb.sl.out
    have o4 := hms.hc.sl.out
    have kS := hS q a' b c m H1 hms.s (by omega) (by omega) (by omega)
    have hvf : vfB l = vfM m := by unfold vfB; rw [hm]
    simp only [mV] at k1 kS
    cases hst : strayB m with
    | true =>
      rw [hst] at kS
      have hv : vfB l = true := by rw [hvf, vfM, hst]; rfl
      simp -implicitDefEqProofs only [bU, reduceIte, Nat.reduceEqDiff, reduceCtorEq, implies_true, forall_const, eq_self, Nat.reduceAdd, Nat.reduceLT, bne_self_eq_false, bT, eq_self, true_implies, false_implies, forall_const, if_true, if_false, Int.reduceToNat, Nat.reduceSub, Int.reduceLE, bV, Nat.reduceAdd, Nat.reduceLT, Nat.reduceLeDiff, Nat.reduceLeDiff, oa, k1, o1, o2, o3, o4, hI0, kS, n1, n2, Int.reduceLT, Int.reduceEq, List.length_nil, show ((0 : Nat) : Int) = 0 from rfl, endK, rsC, rsV, resV]
      exact .mk' e1 rfl rfl hv rfl
    | false =>
    rw [hst] at kS
    simp -implicitDefEqProofs only [bU, reduceIte, Nat.reduceEqDiff, reduceCtorEq, implies_true, forall_const, eq_self, Nat.reduceAdd, Nat.reduceLT, bne_self_eq_false, bT, eq_self, true_implies, false_implies, forall_const, if_true, if_false, Int.reduceToNat, Nat.reduceSub, Int.reduceLE, bV, Nat.reduceAdd, Nat.reduceLT, Nat.reduceLeDiff, Nat.reduceLeDiff, oa, k1, o1, o2, o3, o4, hI0, kS, n1, n2, Int.reduceLT, Int.reduceEq, List.length_nil, show ((0 : Nat) : Int) = 0 from rfl]
    refine exec_loop (fun n e M => ∃ (L : List Lv) (g : Nat), look e 0 = a ∧ look e 1 = .ns ∧ look e 2 = .i .i64 0 ∧ look e 3 = .s [] ∧ look e 8 = .la 8 0 0 0 ∧ look e 9 = .la 9 1 0 0 ∧ look e 10 = .la 10 2 0 0 ∧ look e 11 = .i .i64 la ∧ look e 13 = .i .i64 0 ∧ M = ⟨L, g, H1⟩ ∧
      keepL [0, 1, 2, 3, 8, 9, 10, 11, 13] L = lsVf m.h q a' b c) ?_ (n := 0) ⟨_, _, rfl, rfl, rfl, rfl, rfl, rfl, rfl, rfl, rfl, rfl, rfl⟩
    rintro n e M ⟨L, g, q0, q1, q2, q3, q8, q9, q10, q11, q13, rfl, hL⟩
    simp only [lsVf, mV] at hL
    have hb1 : Byt H1 a l := h.ext e1
    obtain ⟨cb1, cb2⟩ := hb1.cbs
    obtain ⟨x1, x2⟩ := Sx.len hms.hc.sl
    have s0 : strayB m = false := hst
    by_cases hx : m.ex.length = 0
    · have hx' : ((m.ex.length : Int) = 0) = True := eq_true (by omega)
      have hv : vfB l = false := by rw [hvf, vfM, s0, last_nil hx]; rfl
      simp -implicitDefEqProofs only [bU, reduceIte, Nat.reduceEqDiff, reduceCtorEq, implies_true, forall_const, eq_self, Nat.reduceAdd, Nat.reduceLT, bne_self_eq_false, bT, eq_self, true_implies, false_implies, forall_const, if_true, if_false, Int.reduceToNat, Nat.reduceSub, Int.reduceLE, bV, Nat.reduceAdd, Nat.reduceLT, Nat.reduceLeDiff, Nat.reduceLeDiff, q0, q1, q2, q3, q8, q9, q10, q11, q13, hL, n1, n2, Int.reduceLT, Int.reduceEq, show ((0 : Nat) : Int) = 0 from rfl, x1, x2, hx', cb1, cb2, endK, rsC, rsV, resV]
      exact .mk' (e1.trans (.new _ _)) rfl rfl hv rfl -- X1
    have hx' : ((m.ex.length : Int) = 0) = False := eq_false (by omega)
    have hil : m.ex.length - 1 < m.ex.length := by omega
    have w1 : IntKind.i64.wrap ((m.ex.length : Int) - 1) = ((m.ex.length - 1 : Nat) : Int) := by rw [w64 (by omega) (by omega)]; omega
    obtain ⟨b1, b2, b3, b4, b5⟩ := Sx.fdn (z := 5) hms.hc.sl rfl hil (off := 1) (by decide)
    have b5' := fun (L : List Lv) (g : Nat) => (b5 L g).trans (show _ = AV.i .i64 (m.ex[m.ex.length - 1]).t from rfl)
    obtain ⟨-, -, b6, b7⟩ := Sx.at' hms.hc.sl hil
    simp only [show eR.z = 5 from rfl] at b6 b7
    have hlast := last_eq hil
    generalize hr : m.ex[m.ex.length - 1] = r at *
    by_cases ht : r.t = 250
    rotate_left
    · have hv : vfB l = false := by rw [hvf, vfM, s0, hlast, is250, decide_eq_false ht]; rfl
      simp -implicitDefEqProofs only [bU, reduceIte, Nat.reduceEqDiff, reduceCtorEq, implies_true, forall_const, eq_self, Nat.reduceAdd, Nat.reduceLT, bne_self_eq_false, bT, eq_self, true_implies, false_implies, forall_const, if_true, if_false, Int.reduceToNat, Nat.reduceSub, Int.reduceLE, bV, Nat.reduceAdd, Nat.reduceLT, Nat.reduceLeDiff, Nat.reduceLeDiff, q0, q1, q2, q3, q8, q9, q10, q11, q13, hL, n1, n2, Int.reduceLT, Int.reduceEq, show ((0 : Nat) : Int) = 0 from rfl, x1, x2, hx', w1, toNat_nat, b1, b2, b3, b4, b5', ht, cb1, cb2, endK, rsC, rsV, resV]
      exact .mk' (e1.trans (.new _ _)) rfl rfl hv rfl -- X2
    have hrd : r.d.length ≤ 1048576 := by
      have hmem : r ∈ m.ex := hr ▸ List.getElem_mem hil
      have := tot_mem' (w := w_RR) hmem
      simp only [w_RR, szM] at this z3
      omega
    obtain ⟨v2, H2, k2, e2, hdt⟩ := hD r H1 (by omega)
    have lb1 : ((m.ex.length : Int)) = ((m.ex.length : Nat) : Int) := rfl
    by_cases hdk : dOK r = true
    rotate_left
    · rw [if_neg hdk] at hdt
      subst hdt
      have hdk' : dOK r = false := by simpa using hdk
      have hv : vfB l = true := by rw [hvf, vfM, s0, hlast, is250, decide_eq_true ht, hdk']; rfl
      simp only [eR, Enc.v, ht] at k2 b7
      simp -implicitDefEqProofs only [bU, reduceIte, Nat.reduceEqDiff, reduceCtorEq, implies_true, forall_const, eq_self, Nat.reduceAdd, Nat.reduceLT, bne_self_eq_false, bT, eq_self, true_implies, false_implies, forall_const, if_true, if_false, Int.reduceToNat, Nat.reduceSub, Int.reduceLE, bV, Nat.reduceAdd, Nat.reduceLT, Nat.reduceLeDiff, Nat.reduceLeDiff, q0, q1, q2, q3, q8, q9, q10, q11, q13, hL, n1, n2, Int.reduceLT, Int.reduceEq, show ((0 : Nat) : Int) = 0 from rfl, x1, x2, hx', w1, toNat_nat, b1, b2, b3, b4, b5', b6, b7, k2, ht, cb1, cb2, endK, rsC, rsV, resV]
      exact .mk' (e1.trans e2) rfl rfl hv rfl -- X3
    rw [if_pos hdk] at hdt
    have hv : vfB l = false := by rw [hvf, vfM, s0, hlast, hdk]; simp
    obtain ⟨d, s0', s1', s2', s3', rfl, hsl, y3, y2⟩ := hdt
    have od := hsl.out
    obtain ⟨H3, kP, e3⟩ := hP (m.ex.length - 1) H2 (by omega)
    have hb2 : Byt H2 a l := hb1.ext e2
    obtain ⟨cb3, cb4⟩ := hb2.cbs
    have hsl3 := hsl.ext e3
    have i3 := fun (L : List Lv) (g : Nat) => hsl.ia1 (j := 3) (v := .s s3') (by omega) (by simp) rfl L g
    have i3' := fun (L : List Lv) (g : Nat) => hsl3.ia1 (j := 3) (v := .s s3') (by omega) (by simp) rfl L g
    have i2' := fun (L : List Lv) (g : Nat) => hsl3.ia1 (j := 2) (v := .s s2') (by omega) (by simp) rfl L g
    obtain ⟨j1, j2, -⟩ := i3 [] 0
    obtain ⟨j1', j2', -⟩ := i3' [] 0
    obtain ⟨-, j4', -⟩ := i2' [] 0
    have j3 := fun (L : List Lv) (g : Nat) => (i3 L g).2.2.1
    have j5 := fun (L : List Lv) (g : Nat) => (i3 L g).2.2.2
    have j3' := fun (L : List Lv) (g : Nat) => (i3' L g).2.2.1
    have j5' := fun (L : List Lv) (g : Nat) => (i3' L g).2.2.2
    have j6' := fun (L : List Lv) (g : Nat) => (i2' L g).2.2.1
    have j7' := fun (L : List Lv) (g : Nat) => (i2' L g).2.2.2
    have r3 : Int.toNat 3 = 3 := rfl
    have r2 : Int.toNat 2 = 2 := rfl
    simp only [r3, r2] at j3 j5 j3' j5' j6' j7'
    have hne : m.ex ≠ [] := fun e => hx (by rw [e]; rfl)
    obtain ⟨y5, y6⟩ := z8 hne
    have g10 : (10 : Int) ≤ (l.length : Int) := by omega
    have g12 : (12 : Int) ≤ (la : Int) := by omega
    have gla : (la : Int) ≤ (l.length : Int) := by omega
    simp only [eR, Enc.v, ht] at k2 b7
    simp -implicitDefEqProofs only [bU, reduceIte, Nat.reduceEqDiff, reduceCtorEq, implies_true, forall_const, eq_self, Nat.reduceAdd, Nat.reduceLT, bne_self_eq_false, bT, eq_self, true_implies, false_implies, forall_const, if_true, if_false, Int.reduceToNat, Nat.reduceSub, Int.reduceLE, bV, Nat.reduceAdd, Nat.reduceLT, Nat.reduceLeDiff, Nat.reduceLeDiff, lgAt, isRd, q0, q1, q2, q3, q8, q9, q10, q11, q13, hL, n1, n2, Int.reduceLT, Int.reduceLE, Int.reduceEq, Int.reduceToNat, Nat.reduceSub, show ((0 : Nat) : Int) = 0 from rfl, x1, x2, hx', w1, toNat_nat, b1, b2, b3, b4, b5', b6, b7, k2, ht, od, cb3, cb4, j1, j2, j3, j5, j1', j2', j3', j5', j4', j6', j7', kP, g10, g12, gla, endK, rsC, rsV, resV]
    have lb : (be16 (m.ex.length - 1)).length = 2 := rfl
    refine ⟨by rw [List.length_take]; omega, by rw [List.length_append, List.length_take, lb]; omega, by rw [List.length_append, List.length_append, List.length_take, List.length_take, lb]; omega, ?_⟩
    generalize s3' ++ List.take 8 (List.drop 2 l) ++ be16 (m.ex.length - 1) ++ List.take (la - 12) (List.drop 12 l) = body
    have wm : IntKind.i64.wrap (0 - 1) = -1 := by decide
    rw [wm]
    refine exec_loop (fun n e M => ∃ (L : List Lv) (g g14 g15 : Nat) (x15 : AV), look e 1 = .ns ∧ look e 8 = .la 8 0 0 0 ∧ look e 14 = .la 14 g14 0 0 ∧ look e 20 = .i .i64 (-1) ∧ M = ⟨L, g, H3.new (.arr true 0 1 (encB body))⟩ ∧
      keepL [1, 2, 3, 8, 14, 15, 16, 19, 20] L = [⟨15, g15, 0, [x15]⟩, ⟨14, g14, 0, [.ag [.i .i64 29, .b true, .i .i64 (-1), .s s2', .sl H3.n 0 body.length]]⟩, ⟨8, 0, 0, [.ag [.i .i64 0, .b false, .i .i64 0, .s [], .ns]]⟩]) ?_ (n := 0) ⟨_, _, _, _, _, rfl, rfl, rfl, rfl, rfl, rfl⟩ -- X4
    clear q0 q1 q2 q3 q8 q9 q10 q11 q13 hL
    rintro n e M ⟨L, g, g14, g15, x15, q1, q8, q14, q20, rfl, hL⟩
    simp -implicitDefEqProofs only [bU, reduceIte, Nat.reduceEqDiff, reduceCtorEq, implies_true, forall_const, eq_self, Nat.reduceAdd, Nat.reduceLT, bne_self_eq_false, bT, eq_self, true_implies, false_implies, forall_const, if_true, if_false, Int.reduceToNat, Nat.reduceSub, Int.reduceLE, bV, Nat.reduceAdd, Nat.reduceLT, Nat.reduceLeDiff, Nat.reduceLeDiff, lgAt, isRd, q1, q8, q14, q20, hL, Int.reduceLT, Int.reduceLE, Int.reduceNeg, endK, rsC, rsV, resV]
    exact .mk' (((e1.trans e2).trans e3).trans (.new _ _)) rfl rfl hv rfl -- X5
end
end Go.Vm
/- Messages read: the program's reader behind the questions. -/
namespace Go.Vm
set_option linter.unusedVariables false
set_option linter.unusedSimpArgs false
def lsD (l : List UInt8) : List Lv := [⟨5, 2, 0, [.ag (cntL l)]⟩, ⟨2, 0, 0, [mV hd0 .ns .ns .ns .ns]⟩]
def dcTail : S := sAt c_impl_Decode.s [1, 1, 1, 1, 1, 1, 1, 1]
section
variable {C : Tab}
set_option maxRecDepth 100000 in
set_option maxHeartbeats 4000000 in
theorem r_dcTail {a : AV} {l : List UInt8} {hh : Hd} {qs : List Qn} {q : AV} {H1 H' : AH} {p0 la0 g : Nat} {code : Int} {R : Except Int (Msg × Nat)} {e : Env} (hR : T_decRec C n_impl_decoder_record)
    (hd : DS H1 H' a l p0 code q .ns .ns .ns ⟨hh, qs, [], [], []⟩) (hg1 : code = 0 → R = msgK l 1 ⟨hh, qs, [], [], []⟩ p0 la0) (hg2 : code ≠ 0 → R = .error code) (h400 : b2 l 6 + b2 l 8 + b2 l 10 ≤ 400)
    (q0 : look e 0 = a) (q2 : look e 2 = .la 2 0 0 0) (q5 : look e 5 = .la 5 2 0 0) (q7 : look e 7 = .pv H1.n 0) (q8 : look e 8 = .pv (H1.n + 1) 0) :
    exec C dcTail e ⟨lsD l, g, H'⟩ (endK [.c 2 (some 15), .t 3] (DcPost R H1)) := by
  unfold dcTail c_impl_Decode
  simp only [sAt, lsD, mV, cntL, hd0]
  simp -implicitDefEqProofs only [bU, reduceIte, Nat.reduceEqDiff, reduceCtorEq, implies_true, forall_const, eq_self, Nat.reduceAdd, Nat.reduceLT, bne_self_eq_false, bT, eq_self, true_implies, false_implies, forall_const, if_true, if_false, Int.reduceToNat, Nat.reduceSub, Int.reduceLE, bV, Nat.reduceAdd, Nat.reduceLT, Nat.reduceLeDiff, Nat.reduceLeDiff, pv_faC, pv_faV, q0, q2, q5, q7, q8, Int.reduceLT, Int.reduceToNat, Nat.reduceMul, fillEC, fillE, List.replicate, List.set, lenV, lenC]
  refine exec_loop (fun n e M => ∃ (j p la : Nat) (code : Int) (an au ex : List Rr) (ra rb rc : AV) (H' : AH) (L : List Lv) (g g' : Nat), j ≤ 3 ∧ n = 3 - j ∧ an.length ≤ 400 * j ∧ au.length ≤ 400 * j ∧ ex.length ≤ 400 * j ∧
    look e 0 = a ∧ look e 2 = .la 2 0 0 0 ∧ look e 5 = .la 5 2 0 0 ∧ look e 7 = .pv H1.n 0 ∧ look e 8 = .pv (H1.n + 1) 0 ∧ look e 79 = .ll 79 g' 1 3 ∧ look e 80 = .i .i64 3 ∧ look e 81 = .i .i64 j ∧
    M = ⟨L, g, H'⟩ ∧ keepL [0, 2, 5, 7, 8, 79, 80, 81] L = ⟨79, g', 0, [.pv (H1.n + 1) 12, .pv (H1.n + 1) 13, .pv (H1.n + 1) 14]⟩ :: lsD l ∧
    DS H1 H' a l p code q ra rb rc ⟨hh, qs, an, au, ex⟩ ∧ (code = 0 → R = msgK l (j + 1) ⟨hh, qs, an, au, ex⟩ p la) ∧ (code ≠ 0 → R = .error code)) ?_ (n := 3)
    ⟨0, p0, la0, code, [], [], [], .ns, .ns, .ns, H', _, _, g, by omega, by omega, by simp, by simp, by simp, q0, q2, q5, q7, q8, rfl, rfl, rfl, rfl, rfl, hd, hg1, hg2⟩
  clear q0 q2 q5 q7 q8 hd hg1 hg2
  clear H' p0 code la0
  rintro n e M ⟨j, p, la, code, an, au, ex, ra, rb, rc, H', L, g, g', hj, rfl, y1, y2, y3, q0, q2, q5, q7, q8, q79, q80, q81, rfl, hL, hd, hg1, hg2⟩
  simp only [lsD, mV, cntL, hd0] at hL
  have a11 : IntKind.i64.wrap (0 + 1) = 1 := by decide
  have a12 : IntKind.i64.wrap (1 + 1) = 2 := by decide
  have a13 : IntKind.i64.wrap (2 + 1) = 3 := by decide
  have c0 : ((0 : Nat) : Int) = 0 := rfl
  have c1 : ((1 : Nat) : Int) = 1 := rfl
  have c2 : ((2 : Nat) : Int) = 2 := rfl
  have c3 : ((3 : Nat) : Int) = 3 := rfl
  have c4 : ((4 : Nat) : Int) = 4 := rfl
  have i0 : iaC 0 (.ll 79 g' 1 3) := ⟨by decide, by decide⟩
  have i1 : iaC 1 (.ll 79 g' 1 3) := ⟨by decide, by decide⟩
  have i2 : iaC 2 (.ll 79 g' 1 3) := ⟨by decide, by decide⟩
  obtain rfl | rfl | rfl | rfl : j = 0 ∨ j = 1 ∨ j = 2 ∨ j = 3 := by omega
  · rw [show 0 + 1 = 1 from rfl] at hg1
    simp only [msgK, Nat.reduceEqDiff, if_true, if_false] at hg1
    simp -implicitDefEqProofs only [bU, reduceIte, Nat.reduceEqDiff, reduceCtorEq, implies_true, forall_const, eq_self, Nat.reduceAdd, Nat.reduceLT, bne_self_eq_false, bT, eq_self, true_implies, false_implies, forall_const, if_true, if_false, Int.reduceToNat, Nat.reduceSub, Int.reduceLE, bV, Nat.reduceAdd, Nat.reduceLT, Nat.reduceLeDiff, Nat.reduceLeDiff, pv_faC, pv_faV, q0, q2, q5, q7, q8, q79, q80, q81, hL, c0, c1, c2, c3, slZ, i0, i1, i2, iaV, Int.reduceLT, Int.reduceToNat, Nat.reduceMul]
    refine exec_loop (fun n e M => ∃ (i p la : Nat) (code : Int) (xs : List Rr) (rx : AV) (H' : AH) (L : List Lv) (g : Nat), i ≤ b2 l 6 ∧ n = b2 l 6 - i ∧ xs.length ≤ 400 * 0 + i ∧
      look e 0 = a ∧ look e 2 = .la 2 0 0 0 ∧ look e 5 = .la 5 2 0 0 ∧ look e 7 = .pv H1.n 0 ∧ look e 8 = .pv (H1.n + 1) 0 ∧ look e 11 = .i .i64 0 ∧ look e 12 = .pv (H1.n + 1) 12 ∧ look e 13 = .i .i64 i ∧ look e 79 = .ll 79 g' 1 3 ∧ look e 80 = .i .i64 3 ∧ look e 81 = .i .i64 0 ∧
      M = ⟨L, g, H'⟩ ∧ keepL [0, 2, 5, 7, 8, 11, 12, 13, 79, 80, 81] L = ⟨79, g', 0, [.pv (H1.n + 1) 12, .pv (H1.n + 1) 13, .pv (H1.n + 1) 14]⟩ :: lsD l ∧
      DS H1 H' a l p code q rx rb rc ⟨hh, qs, xs, au, ex⟩ ∧ (code = 0 → R = msgA l (b2 l 6 - i) ⟨hh, qs, xs, au, ex⟩ p la) ∧ (code ≠ 0 → R = .error code)) ?_ (n := b2 l 6)
      ⟨0, p, la, code, an, ra, H', _, _, by omega, by omega, by omega, rfl, rfl, rfl, rfl, rfl, rfl, rfl, rfl, rfl, rfl, rfl, rfl, rfl, hd, hg1, hg2⟩
    clear q0 q2 q5 q7 q8 q79 q80 q81 hL hd hg1 hg2 y1
    clear H' p la code an ra
    rintro n e M ⟨i, p, la, code, xs, rx, H', L, g, hi, rfl, yx, q0, q2, q5, q7, q8, q11, q12, q13, q79, q80, q81, rfl, hL, hd, hg1, hg2⟩
    simp only [lsD, mV, cntL, hd0] at hL
    obtain ⟨⟨d1, d2, d3⟩, d4, d5, d6⟩ := hd.dec.lds
    obtain ⟨x1, x2⟩ := hd.fld.2.1
    by_cases h1 : (i : Int) < (b2 l 6 : Nat) ∧ code = 0
    · obtain ⟨h1, rfl⟩ := h1
      have hg := hg1 rfl
      clear hg1 hg2
      have w4 : IntKind.i64.wrap ((i : Int) + 1) = ((i + 1 : Nat) : Int) := by rw [w64 (by omega) (by omega)]; rfl
      rw [show b2 l 6 - i = (b2 l 6 - (i + 1)) + 1 by omega, msgA_s] at hg
      obtain ⟨v2, H3, k2, f2, hpost⟩ := hR H1.n a l p H' hd.dec hd.F
      have key : ∃ r p3 c3, v2 = eR.v r ∧ Dec H3 H1.n a l p3 c3 ∧ (c3 ≠ 0 → R = .error c3) ∧ (c3 = 0 → R = msgA l (b2 l 6 - (i + 1)) ⟨hh, qs, xs ++ [r], au, ex⟩ p3 p) := by
        cases hdn : recR l p with
        | error c =>
          rw [hdn] at hg hpost
          obtain ⟨z1, p', z2⟩ := hpost
          exact ⟨zr, p', c, z1, z2, fun _ => hg, fun e => absurd e (recR_e hdn)⟩
        | ok r =>
          obtain ⟨s, k⟩ := r
          rw [hdn] at hg hpost
          exact ⟨s, k, 0, hpost.1, hpost.2, fun e => absurd rfl e, fun _ => hg⟩
      clear hpost hg
      obtain ⟨r, p3, c5, rfl, d7, x5, x6⟩ := key
      have hd5 := hd.kp f2 d7
      obtain ⟨x3, x4⟩ := hd5.fld.2.1
      have z4 : (eR.v r).cells.length = 5 := rfl
      have z5 : (eR.v r).outs = true := rfl
      have hrow := fun g => hd5.rowA (lit_srcR (t := 107) (g := g) (x := r) (L := ⟨79, g', 0, [.pv (H1.n + 1) 12, .pv (H1.n + 1) 13, .pv (H1.n + 1) 14]⟩ :: lsD l) (H := H3)) (by simp only; omega)
      simp -implicitDefEqProofs only [bU, reduceIte, Nat.reduceEqDiff, reduceCtorEq, implies_true, forall_const, eq_self, Nat.reduceAdd, Nat.reduceLT, bne_self_eq_false, bT, eq_self, true_implies, false_implies, forall_const, if_true, if_false, Int.reduceToNat, Nat.reduceSub, Int.reduceLE, bV, Nat.reduceAdd, Nat.reduceLT, Nat.reduceLeDiff, Nat.reduceLeDiff, lgAt, isRd, pv_faC, pv_faV, q0, q2, q5, q7, q8, q11, q12, q13, q79, q80, q81, hL, a11, a12, a13, c0, c4, Int.reduceLT, Int.reduceToNat, Nat.reduceMul, d1, d2, d3, d4, d5, d6, h1, k2, x1, x2, x3, x4, z4, z5, w4, fillEC, fillE, List.replicate, List.set]
      obtain ⟨p1, r', H6, p2, p3', o1, o2, s1, H7, s2, hd7⟩ := hrow g
      simp only [lsD, mV, cntL, hd0] at p1 p2 p3'
      simp -implicitDefEqProofs only [bU, reduceIte, Nat.reduceEqDiff, reduceCtorEq, implies_true, forall_const, eq_self, Nat.reduceAdd, Nat.reduceLT, bne_self_eq_false, bT, eq_self, true_implies, false_implies, forall_const, if_true, if_false, Int.reduceToNat, Nat.reduceSub, Int.reduceLE, bV, Nat.reduceAdd, Nat.reduceLT, Nat.reduceLeDiff, Nat.reduceLeDiff, pv_faC, pv_faV, eR, Enc.v, p1, p2, p3', o1, o2, s1, s2]
      exact ⟨b2 l 6 - (i + 1), by omega, i + 1, p3, p, c5, xs ++ [r], r', H7, _, _, by omega, rfl, by rw [List.length_append, List.length_singleton]; omega, rfl, rfl, rfl, hd7, x6, x5⟩
    · have hstop : code = 0 → R = msgK l 2 ⟨hh, qs, xs, au, ex⟩ p la := fun hc => by
        have : b2 l 6 - i = 0 := by omega
        rw [hg1 hc, this]; rfl
      clear hg1
      have hb : ¬ ((i : Int) < (b2 l 6 : Nat)) ∨ ((i : Int) < (b2 l 6 : Nat) ∧ ¬ code = 0) := by
        by_cases h2 : (i : Int) < (b2 l 6 : Nat)
        · exact .inr ⟨h2, fun h => h1 ⟨h2, h⟩⟩
        · exact .inl h2
      rcases hb with h2 | ⟨h2, h3⟩
      · simp -implicitDefEqProofs only [bU, reduceIte, Nat.reduceEqDiff, reduceCtorEq, implies_true, forall_const, eq_self, Nat.reduceAdd, Nat.reduceLT, bne_self_eq_false, bT, eq_self, true_implies, false_implies, forall_const, if_true, if_false, Int.reduceToNat, Nat.reduceSub, Int.reduceLE, bV, Nat.reduceAdd, Nat.reduceLT, Nat.reduceLeDiff, Nat.reduceLeDiff, pv_faC, pv_faV, q0, q2, q5, q7, q8, q11, q12, q13, q79, q80, q81, hL, a11, a12, a13, c4, h2, Int.reduceLT, Int.reduceToNat, Nat.reduceMul]
        exact ⟨2 - 0, by omega, 0 + 1, p, la, code, xs, au, ex, rx, rb, rc, H', _, _, g', by omega, by omega, by omega, by omega, by omega, rfl, rfl, rfl, rfl, hd, hstop, hg2⟩
      · simp -implicitDefEqProofs only [bU, reduceIte, Nat.reduceEqDiff, reduceCtorEq, implies_true, forall_const, eq_self, Nat.reduceAdd, Nat.reduceLT, bne_self_eq_false, bT, eq_self, true_implies, false_implies, forall_const, if_true, if_false, Int.reduceToNat, Nat.reduceSub, Int.reduceLE, bV, Nat.reduceAdd, Nat.reduceLT, Nat.reduceLeDiff, Nat.reduceLeDiff, pv_faC, pv_faV, q0, q2, q5, q7, q8, q11, q12, q13, q79, q80, q81, hL, a11, a12, a13, c4, h2, h3, d1, d2, d3, d4, d5, d6, Int.reduceLT, Int.reduceToNat, Nat.reduceMul]
        exact ⟨2 - 0, by omega, 0 + 1, p, la, code, xs, au, ex, rx, rb, rc, H', _, _, g', by omega, by omega, by omega, by omega, by omega, rfl, rfl, rfl, rfl, hd, hstop, hg2⟩
  · rw [show 1 + 1 = 2 from rfl] at hg1
    simp only [msgK, Nat.reduceEqDiff, if_true, if_false] at hg1
    simp -implicitDefEqProofs only [bU, reduceIte, Nat.reduceEqDiff, reduceCtorEq, implies_true, forall_const, eq_self, Nat.reduceAdd, Nat.reduceLT, bne_self_eq_false, bT, eq_self, true_implies, false_implies, forall_const, if_true, if_false, Int.reduceToNat, Nat.reduceSub, Int.reduceLE, bV, Nat.reduceAdd, Nat.reduceLT, Nat.reduceLeDiff, Nat.reduceLeDiff, pv_faC, pv_faV, q0, q2, q5, q7, q8, q79, q80, q81, hL, c0, c1, c2, c3, slZ, i0, i1, i2, iaV, Int.reduceLT, Int.reduceToNat, Nat.reduceMul]
    refine exec_loop (fun n e M => ∃ (i p la : Nat) (code : Int) (xs : List Rr) (rx : AV) (H' : AH) (L : List Lv) (g : Nat), i ≤ b2 l 8 ∧ n = b2 l 8 - i ∧ xs.length ≤ 400 * 1 + i ∧
      look e 0 = a ∧ look e 2 = .la 2 0 0 0 ∧ look e 5 = .la 5 2 0 0 ∧ look e 7 = .pv H1.n 0 ∧ look e 8 = .pv (H1.n + 1) 0 ∧ look e 11 = .i .i64 1 ∧ look e 12 = .pv (H1.n + 1) 13 ∧ look e 13 = .i .i64 i ∧ look e 79 = .ll 79 g' 1 3 ∧ look e 80 = .i .i64 3 ∧ look e 81 = .i .i64 1 ∧
      M = ⟨L, g, H'⟩ ∧ keepL [0, 2, 5, 7, 8, 11, 12, 13, 79, 80, 81] L = ⟨79, g', 0, [.pv (H1.n + 1) 12, .pv (H1.n + 1) 13, .pv (H1.n + 1) 14]⟩ :: lsD l ∧
      DS H1 H' a l p code q ra rx rc ⟨hh, qs, an, xs, ex⟩ ∧ (code = 0 → R = msgB l (b2 l 8 - i) ⟨hh, qs, an, xs, ex⟩ p la) ∧ (code ≠ 0 → R = .error code)) ?_ (n := b2 l 8)
      ⟨0, p, la, code, au, rb, H', _, _, by omega, by omega, by omega, rfl, rfl, rfl, rfl, rfl, rfl, rfl, rfl, rfl, rfl, rfl, rfl, rfl, hd, hg1, hg2⟩
    clear q0 q2 q5 q7 q8 q79 q80 q81 hL hd hg1 hg2 y2
    clear H' p la code au rb
    rintro n e M ⟨i, p, la, code, xs, rx, H', L, g, hi, rfl, yx, q0, q2, q5, q7, q8, q11, q12, q13, q79, q80, q81, rfl, hL, hd, hg1, hg2⟩
    simp only [lsD, mV, cntL, hd0] at hL
    obtain ⟨⟨d1, d2, d3⟩, d4, d5, d6⟩ := hd.dec.lds
    obtain ⟨x1, x2⟩ := hd.fld.2.2.1
    by_cases h1 : (i : Int) < (b2 l 8 : Nat) ∧ code = 0
    · obtain ⟨h1, rfl⟩ := h1
      have hg := hg1 rfl
      clear hg1 hg2
      have w4 : IntKind.i64.wrap ((i : Int) + 1) = ((i + 1 : Nat) : Int) := by rw [w64 (by omega) (by omega)]; rfl
      rw [show b2 l 8 - i = (b2 l 8 - (i + 1)) + 1 by omega, msgB_s] at hg
      obtain ⟨v2, H3, k2, f2, hpost⟩ := hR H1.n a l p H' hd.dec hd.F
      have key : ∃ r p3 c3, v2 = eR.v r ∧ Dec H3 H1.n a l p3 c3 ∧ (c3 ≠ 0 → R = .error c3) ∧ (c3 = 0 → R = msgB l (b2 l 8 - (i + 1)) ⟨hh, qs, an, xs ++ [r], ex⟩ p3 p) := by
        cases hdn : recR l p with
        | error c =>
          rw [hdn] at hg hpost
          obtain ⟨z1, p', z2⟩ := hpost
          exact ⟨zr, p', c, z1, z2, fun _ => hg, fun e => absurd e (recR_e hdn)⟩
        | ok r =>
          obtain ⟨s, k⟩ := r
          rw [hdn] at hg hpost
          exact ⟨s, k, 0, hpost.1, hpost.2, fun e => absurd rfl e, fun _ => hg⟩
      clear hpost hg
      obtain ⟨r, p3, c5, rfl, d7, x5, x6⟩ := key
      have hd5 := hd.kp f2 d7
      obtain ⟨x3, x4⟩ := hd5.fld.2.2.1
      have z4 : (eR.v r).cells.length = 5 := rfl
      have z5 : (eR.v r).outs = true := rfl
      have hrow := fun g => hd5.rowB (lit_srcR (t := 107) (g := g) (x := r) (L := ⟨79, g', 0, [.pv (H1.n + 1) 12, .pv (H1.n + 1) 13, .pv (H1.n + 1) 14]⟩ :: lsD l) (H := H3)) (by simp only; omega)
      simp -implicitDefEqProofs only [bU, reduceIte, Nat.reduceEqDiff, reduceCtorEq, implies_true, forall_const, eq_self, Nat.reduceAdd, Nat.reduceLT, bne_self_eq_false, bT, eq_self, true_implies, false_implies, forall_const, if_true, if_false, Int.reduceToNat, Nat.reduceSub, Int.reduceLE, bV, Nat.reduceAdd, Nat.reduceLT, Nat.reduceLeDiff, Nat.reduceLeDiff, lgAt, isRd, pv_faC, pv_faV, q0, q2, q5, q7, q8, q11, q12, q13, q79, q80, q81, hL, a11, a12, a13, c0, c4, Int.reduceLT, Int.reduceToNat, Nat.reduceMul, d1, d2, d3, d4, d5, d6, h1, k2, x1, x2, x3, x4, z4, z5, w4, fillEC, fillE, List.replicate, List.set]
      obtain ⟨p1, r', H6, p2, p3', o1, o2, s1, H7, s2, hd7⟩ := hrow g
      simp only [lsD, mV, cntL, hd0] at p1 p2 p3'
      simp -implicitDefEqProofs only [bU, reduceIte, Nat.reduceEqDiff, reduceCtorEq, implies_true, forall_const, eq_self, Nat.reduceAdd, Nat.reduceLT, bne_self_eq_false, bT, eq_self, true_implies, false_implies, forall_const, if_true, if_false, Int.reduceToNat, Nat.reduceSub, Int.reduceLE, bV, Nat.reduceAdd, Nat.reduceLT, Nat.reduceLeDiff, Nat.reduceLeDiff, pv_faC, pv_faV, eR, Enc.v, p1, p2, p3', o1, o2, s1, s2]
      exact ⟨b2 l 8 - (i + 1), by omega, i + 1, p3, p, c5, xs ++ [r], r', H7, _, _, by omega, rfl, by rw [List.length_append, List.length_singleton]; omega, rfl, rfl, rfl, hd7, x6, x5⟩
    · have hstop : code = 0 → R = msgK l 3 ⟨hh, qs, an, xs, ex⟩ p la := fun hc => by
        have : b2 l 8 - i = 0 := by omega
        rw [hg1 hc, this]; rfl
      clear hg1
      have hb : ¬ ((i : Int) < (b2 l 8 : Nat)) ∨ ((i : Int) < (b2 l 8 : Nat) ∧ ¬ code = 0) := by
        by_cases h2 : (i : Int) < (b2 l 8 : Nat)
        · exact .inr ⟨h2, fun h => h1 ⟨h2, h⟩⟩
        · exact .inl h2
      rcases hb with h2 | ⟨h2, h3⟩
      · simp -implicitDefEqProofs only [bU, reduceIte, Nat.reduceEqDiff, reduceCtorEq, implies_true, forall_const, eq_self, Nat.reduceAdd, Nat.reduceLT, bne_self_eq_false, bT, eq_self, true_implies, false_implies, forall_const, if_true, if_false, Int.reduceToNat, Nat.reduceSub, Int.reduceLE, bV, Nat.reduceAdd, Nat.reduceLT, Nat.reduceLeDiff, Nat.reduceLeDiff, pv_faC, pv_faV, q0, q2, q5, q7, q8, q11, q12, q13, q79, q80, q81, hL, a11, a12, a13, c4, h2, Int.reduceLT, Int.reduceToNat, Nat.reduceMul]
        exact ⟨2 - 1, by omega, 1 + 1, p, la, code, an, xs, ex, ra, rx, rc, H', _, _, g', by omega, by omega, by omega, by omega, by omega, rfl, rfl, rfl, rfl, hd, hstop, hg2⟩
      · simp -implicitDefEqProofs only [bU, reduceIte, Nat.reduceEqDiff, reduceCtorEq, implies_true, forall_const, eq_self, Nat.reduceAdd, Nat.reduceLT, bne_self_eq_false, bT, eq_self, true_implies, false_implies, forall_const, if_true, if_false, Int.reduceToNat, Nat.reduceSub, Int.reduceLE, bV, Nat.reduceAdd, Nat.reduceLT, Nat.reduceLeDiff, Nat.reduceLeDiff, pv_faC, pv_faV, q0, q2, q5, q7, q8, q11, q12, q13, q79, q80, q81, hL, a11, a12, a13, c4, h2, h3, d1, d2, d3, d4, d5, d6, Int.reduceLT, Int.reduceToNat, Nat.reduceMul]
        exact ⟨2 - 1, by omega, 1 + 1, p, la, code, an, xs, ex, ra, rx, rc, H', _, _, g', by omega, by omega, by omega, by omega, by omega, rfl, rfl, rfl, rfl, hd, hstop, hg2⟩
  · rw [show 2 + 1 = 3 from rfl] at hg1
    simp only [msgK, Nat.reduceEqDiff, if_true, if_false] at hg1
    simp -implicitDefEqProofs only [bU, reduceIte, Nat.reduceEqDiff, reduceCtorEq, implies_true, forall_const, eq_self, Nat.reduceAdd, Nat.reduceLT, bne_self_eq_false, bT, eq_self, true_implies, false_implies, forall_const, if_true, if_false, Int.reduceToNat, Nat.reduceSub, Int.reduceLE, bV, Nat.reduceAdd, Nat.reduceLT, Nat.reduceLeDiff, Nat.reduceLeDiff, pv_faC, pv_faV, q0, q2, q5, q7, q8, q79, q80, q81, hL, c0, c1, c2, c3, slZ, i0, i1, i2, iaV, Int.reduceLT, Int.reduceToNat, Nat.reduceMul]
    refine exec_loop (fun n e M => ∃ (i p la : Nat) (code : Int) (xs : List Rr) (rx : AV) (H' : AH) (L : List Lv) (g : Nat), i ≤ b2 l 10 ∧ n = b2 l 10 - i ∧ xs.length ≤ 400 * 2 + i ∧
      look e 0 = a ∧ look e 2 = .la 2 0 0 0 ∧ look e 5 = .la 5 2 0 0 ∧ look e 7 = .pv H1.n 0 ∧ look e 8 = .pv (H1.n + 1) 0 ∧ look e 11 = .i .i64 2 ∧ look e 12 = .pv (H1.n + 1) 14 ∧ look e 13 = .i .i64 i ∧ look e 79 = .ll 79 g' 1 3 ∧ look e 80 = .i .i64 3 ∧ look e 81 = .i .i64 2 ∧
      M = ⟨L, g, H'⟩ ∧ keepL [0, 2, 5, 7, 8, 11, 12, 13, 79, 80, 81] L = ⟨79, g', 0, [.pv (H1.n + 1) 12, .pv (H1.n + 1) 13, .pv (H1.n + 1) 14]⟩ :: lsD l ∧
      DS H1 H' a l p code q ra rb rx ⟨hh, qs, an, au, xs⟩ ∧ (code = 0 → R = msgC l (b2 l 10 - i) ⟨hh, qs, an, au, xs⟩ p la) ∧ (code ≠ 0 → R = .error code)) ?_ (n := b2 l 10)
      ⟨0, p, la, code, ex, rc, H', _, _, by omega, by omega, by omega, rfl, rfl, rfl, rfl, rfl, rfl, rfl, rfl, rfl, rfl, rfl, rfl, rfl, hd, hg1, hg2⟩
    clear q0 q2 q5 q7 q8 q79 q80 q81 hL hd hg1 hg2 y3
    clear H' p la code ex rc
    rintro n e M ⟨i, p, la, code, xs, rx, H', L, g, hi, rfl, yx, q0, q2, q5, q7, q8, q11, q12, q13, q79, q80, q81, rfl, hL, hd, hg1, hg2⟩
    simp only [lsD, mV, cntL, hd0] at hL
    obtain ⟨⟨d1, d2, d3⟩, d4, d5, d6⟩ := hd.dec.lds
    obtain ⟨x1, x2⟩ := hd.fld.2.2.2.1
    by_cases h1 : (i : Int) < (b2 l 10 : Nat) ∧ code = 0
    · obtain ⟨h1, rfl⟩ := h1
      have hg := hg1 rfl
      clear hg1 hg2
      have w4 : IntKind.i64.wrap ((i : Int) + 1) = ((i + 1 : Nat) : Int) := by rw [w64 (by omega) (by omega)]; rfl
      rw [show b2 l 10 - i = (b2 l 10 - (i + 1)) + 1 by omega, msgC_s] at hg
      obtain ⟨v2, H3, k2, f2, hpost⟩ := hR H1.n a l p H' hd.dec hd.F
      have key : ∃ r p3 c3, v2 = eR.v r ∧ Dec H3 H1.n a l p3 c3 ∧ (c3 ≠ 0 → R = .error c3) ∧ (c3 = 0 → R = msgC l (b2 l 10 - (i + 1)) ⟨hh, qs, an, au, xs ++ [r]⟩ p3 p) := by
        cases hdn : recR l p with
        | error c =>
          rw [hdn] at hg hpost
          obtain ⟨z1, p', z2⟩ := hpost
          exact ⟨zr, p', c, z1, z2, fun _ => hg, fun e => absurd e (recR_e hdn)⟩
        | ok r =>
          obtain ⟨s, k⟩ := r
          rw [hdn] at hg hpost
          exact ⟨s, k, 0, hpost.1, hpost.2, fun e => absurd rfl e, fun _ => hg⟩
      clear hpost hg
      obtain ⟨r, p3, c5, rfl, d7, x5, x6⟩ := key
      have hd5 := hd.kp f2 d7
      obtain ⟨x3, x4⟩ := hd5.fld.2.2.2.1
      have z4 : (eR.v r).cells.length = 5 := rfl
      have z5 : (eR.v r).outs = true := rfl
      have hrow := fun g => hd5.rowC (lit_srcR (t := 107) (g := g) (x := r) (L := ⟨79, g', 0, [.pv (H1.n + 1) 12, .pv (H1.n + 1) 13, .pv (H1.n + 1) 14]⟩ :: lsD l) (H := H3)) (by simp only; omega)
      simp -implicitDefEqProofs only [bU, reduceIte, Nat.reduceEqDiff, reduceCtorEq, implies_true, forall_const, eq_self, Nat.reduceAdd, Nat.reduceLT, bne_self_eq_false, bT, eq_self, true_implies, false_implies, forall_const, if_true, if_false, Int.reduceToNat, Nat.reduceSub, Int.reduceLE, bV, Nat.reduceAdd, Nat.reduceLT, Nat.reduceLeDiff, Nat.reduceLeDiff, lgAt, isRd, pv_faC, pv_faV, q0, q2, q5, q7, q8, q11, q12, q13, q79, q80, q81, hL, a11, a12, a13, c0, c4, Int.reduceLT, Int.reduceToNat, Nat.reduceMul, d1, d2, d3, d4, d5, d6, h1, k2, x1, x2, x3, x4, z4, z5, w4, fillEC, fillE, List.replicate, List.set]
      obtain ⟨p1, r', H6, p2, p3', o1, o2, s1, H7, s2, hd7⟩ := hrow g
      simp only [lsD, mV, cntL, hd0] at p1 p2 p3'
      simp -implicitDefEqProofs only [bU, reduceIte, Nat.reduceEqDiff, reduceCtorEq, implies_true, forall_const, eq_self, Nat.reduceAdd, Nat.reduceLT, bne_self_eq_false, bT, eq_self, true_implies, false_implies, forall_const, if_true, if_false, Int.reduceToNat, Nat.reduceSub, Int.reduceLE, bV, Nat.reduceAdd, Nat.reduceLT, Nat.reduceLeDiff, Nat.reduceLeDiff, pv_faC, pv_faV, eR, Enc.v, p1, p2, p3', o1, o2, s1, s2]
      exact ⟨b2 l 10 - (i + 1), by omega, i + 1, p3, p, c5, xs ++ [r], r', H7, _, _, by omega, rfl, by rw [List.length_append, List.length_singleton]; omega, rfl, rfl, rfl, hd7, x6, x5⟩
    · have hstop : code = 0 → R = msgK l 4 ⟨hh, qs, an, au, xs⟩ p la := fun hc => by
        have : b2 l 10 - i = 0 := by omega
        rw [hg1 hc, this]; rfl
      clear hg1
      have hb : ¬ ((i : Int) < (b2 l 10 : Nat)) ∨ ((i : Int) < (b2 l 10 : Nat) ∧ ¬ code = 0) := by
        by_cases h2 : (i : Int) < (b2 l 10 : Nat)
        · exact .inr ⟨h2, fun h => h1 ⟨h2, h⟩⟩
        · exact .inl h2
      rcases hb with h2 | ⟨h2, h3⟩
      · simp -implicitDefEqProofs only [bU, reduceIte, Nat.reduceEqDiff, reduceCtorEq, implies_true, forall_const, eq_self, Nat.reduceAdd, Nat.reduceLT, bne_self_eq_false, bT, eq_self, true_implies, false_implies, forall_const, if_true, if_false, Int.reduceToNat, Nat.reduceSub, Int.reduceLE, bV, Nat.reduceAdd, Nat.reduceLT, Nat.reduceLeDiff, Nat.reduceLeDiff, pv_faC, pv_faV, q0, q2, q5, q7, q8, q11, q12, q13, q79, q80, q81, hL, a11, a12, a13, c4, h2, Int.reduceLT, Int.reduceToNat, Nat.reduceMul]
        exact ⟨2 - 2, by omega, 2 + 1, p, la, code, an, au, xs, ra, rb, rx, H', _, _, g', by omega, by omega, by omega, by omega, by omega, rfl, rfl, rfl, rfl, hd, hstop, hg2⟩
      · simp -implicitDefEqProofs only [bU, reduceIte, Nat.reduceEqDiff, reduceCtorEq, implies_true, forall_const, eq_self, Nat.reduceAdd, Nat.reduceLT, bne_self_eq_false, bT, eq_self, true_implies, false_implies, forall_const, if_true, if_false, Int.reduceToNat, Nat.reduceSub, Int.reduceLE, bV, Nat.reduceAdd, Nat.reduceLT, Nat.reduceLeDiff, Nat.reduceLeDiff, pv_faC, pv_faV, q0, q2, q5, q7, q8, q11, q12, q13, q79, q80, q81, hL, a11, a12, a13, c4, h2, h3, d1, d2, d3, d4, d5, d6, Int.reduceLT, Int.reduceToNat, Nat.reduceMul]
        exact ⟨2 - 2, by omega, 2 + 1, p, la, code, an, au, xs, ra, rb, rx, H', _, _, g', by omega, by omega, by omega, by omega, by omega, rfl, rfl, rfl, rfl, hd, hstop, hg2⟩
  · have hg1 : code = 0 → R = if p = l.length then .ok (⟨hh, qs, an, au, ex⟩, la) else .error 10 := hg1
    obtain ⟨⟨d1, d2, d3⟩, d4, d5, d6⟩ := hd.dec.lds
    obtain ⟨l1, l2⟩ := hd.dec.b.len
    obtain ⟨m1, m2⟩ := hd.fld.2.2.2.2
    simp only [mV] at m2
    have oq := hd.m.hq.sl.out
    have oa := hd.m.ha.sl.out
    have ob := hd.m.hb.sl.out
    have oc := hd.m.hc.sl.out
    have he := hd.ext
    have hm := hd.m.mono (n1 := H1.n) (by omega)
    by_cases hc : code = 0
    · have hg := hg1 hc
      by_cases hp : p = l.length
      · rw [if_pos hp] at hg
        have hp' : ((p : Int) = (l.length : Int)) = True := eq_true (by omega)
        subst hg
        simp -implicitDefEqProofs only [bU, reduceIte, Nat.reduceEqDiff, reduceCtorEq, implies_true, forall_const, eq_self, Nat.reduceAdd, Nat.reduceLT, bne_self_eq_false, bT, eq_self, true_implies, false_implies, forall_const, if_true, if_false, Int.reduceToNat, Nat.reduceSub, Int.reduceLE, bV, Nat.reduceAdd, Nat.reduceLT, Nat.reduceLeDiff, Nat.reduceLeDiff, lgAt, isRd, pv_faC, pv_faV, q0, q2, q5, q7, q8, q79, q80, q81, hL, c3, Int.reduceLT, d1, d2, d3, d4, d5, d6, l1, l2, m1, m2, oq, oa, ob, oc, hc, hp', endK, rsC, rsV, resV]
        exact ⟨he, q, ra, rb, rc, rfl, hm⟩
      · rw [if_neg hp] at hg
        have hp' : ¬ ((p : Int) = (l.length : Int)) := by omega
        subst hg
        simp -implicitDefEqProofs only [bU, reduceIte, Nat.reduceEqDiff, reduceCtorEq, implies_true, forall_const, eq_self, Nat.reduceAdd, Nat.reduceLT, bne_self_eq_false, bT, eq_self, true_implies, false_implies, forall_const, if_true, if_false, Int.reduceToNat, Nat.reduceSub, Int.reduceLE, bV, Nat.reduceAdd, Nat.reduceLT, Nat.reduceLeDiff, Nat.reduceLeDiff, lgAt, isRd, pv_faC, pv_faV, q0, q2, q5, q7, q8, q79, q80, q81, hL, c3, Int.reduceLT, d1, d2, d3, d4, d5, d6, l1, l2, m1, m2, hc, hp', endK, rsC, rsV, resV]
        exact ⟨he, rfl⟩
    · have hg := hg2 hc
      subst hg
      simp -implicitDefEqProofs only [bU, reduceIte, Nat.reduceEqDiff, reduceCtorEq, implies_true, forall_const, eq_self, Nat.reduceAdd, Nat.reduceLT, bne_self_eq_false, bT, eq_self, true_implies, false_implies, forall_const, if_true, if_false, Int.reduceToNat, Nat.reduceSub, Int.reduceLE, bV, Nat.reduceAdd, Nat.reduceLT, Nat.reduceLeDiff, Nat.reduceLeDiff, lgAt, isRd, pv_faC, pv_faV, q0, q2, q5, q7, q8, q79, q80, q81, hL, c3, Int.reduceLT, d1, d2, d3, d4, d5, d6, l1, l2, m1, m2, hc, endK, rsC, rsV, resV]
      exact ⟨he, rfl⟩
end
end Go.Vm
/- Messages read: the program's reader of messages, whole. -/
namespace Go.Vm
set_option linter.unusedVariables false
set_option linter.unusedSimpArgs false
section
variable {C : Tab}
set_option maxRecDepth 100000 in
set_option maxHeartbeats 4000000 in
theorem r_Decode {a : AV} {l : List UInt8} {H : AH} (hH : T_Head C n_impl_DecodeHead) (hN : T_decName C n_impl_decoder_name) (hT : T_take C n_impl_decoder_take) (hU : T_u16 C n_impl_u16) (hR : T_decRec C n_impl_decoder_record)
    (h : Byt H a l) (hc : Cl H a) (hF : FormsOK H) : Runs C c_impl_Decode [a] H (DcPost (msgR l) H) := by
  unfold Runs
  obtain ⟨B, hB, hs⟩ := cut_at c_impl_Decode [1, 1, 1, 1, 1, 1, 1, 1]
  rw [hs]
  simp only [c_impl_Decode, sPut]
  have hB' : B = dcTail := hB
  clear hs hB
  obtain ⟨l1, l2⟩ := h.len
  have oa := h.out
  have oc := h.one
  unfold msgR
  by_cases g1 : 65535 < l.length
  · rw [if_pos g1]
    have g1' : (65535 : Int) < (l.length : Int) := by omega
    simp -implicitDefEqProofs only [bU, reduceIte, Nat.reduceEqDiff, reduceCtorEq, implies_true, forall_const, eq_self, Nat.reduceAdd, Nat.reduceLT, bne_self_eq_false, bT, eq_self, true_implies, false_implies, forall_const, if_true, if_false, Int.reduceToNat, Nat.reduceSub, Int.reduceLE, bV, Nat.reduceAdd, Nat.reduceLT, Nat.reduceLeDiff, Nat.reduceLeDiff, l1, l2, g1', endK, rsC, rsV, resV]
    exact ⟨.refl H, rfl⟩
  rw [if_neg g1]
  have g1' : ¬ (65535 : Int) < (l.length : Int) := by omega
  have hl : l.length ≤ 65535 := by omega
  obtain ⟨v1, H1, k1, rfl, rfl⟩ := hH a l H h hc
  unfold headV at k1
  by_cases g2 : l.length < 12
  · rw [if_pos g2] at k1
    rw [if_pos g2]
    simp only [eH, Enc.v, hd0, cnt0] at k1
    simp -implicitDefEqProofs only [bU, reduceIte, Nat.reduceEqDiff, reduceCtorEq, implies_true, forall_const, eq_self, Nat.reduceAdd, Nat.reduceLT, bne_self_eq_false, bT, eq_self, true_implies, false_implies, forall_const, if_true, if_false, Int.reduceToNat, Nat.reduceSub, Int.reduceLE, bV, Nat.reduceAdd, Nat.reduceLT, Nat.reduceLeDiff, Nat.reduceLeDiff, l1, l2, g1', oa, k1, Int.reduceEq, endK, rsC, rsV, resV]
    exact ⟨.refl H1, rfl⟩
  rw [if_neg g2] at k1
  rw [if_neg g2]
  rw [cntV, b2_take (by omega), b2_take (by omega), b2_take (by omega), b2_take (by omega)] at k1
  simp only [eH, Enc.v] at k1
  have t4 := b2_lt (l := l) (k := 4) (by omega)
  have t6 := b2_lt (l := l) (k := 6) (by omega)
  have t8 := b2_lt (l := l) (k := 8) (by omega)
  have t10 := b2_lt (l := l) (k := 10) (by omega)
  have w1 : IntKind.i64.wrap ((b2 l 4 : Nat) + (b2 l 6 : Nat)) = ((b2 l 4 + b2 l 6 : Nat) : Int) := by rw [w64 (by omega) (by omega)]; omega
  have w2 : IntKind.i64.wrap ((b2 l 4 + b2 l 6 : Nat) + (b2 l 8 : Nat)) = ((b2 l 4 + b2 l 6 + b2 l 8 : Nat) : Int) := by rw [w64 (by omega) (by omega)]; omega
  have w3 : IntKind.i64.wrap ((b2 l 4 + b2 l 6 + b2 l 8 : Nat) + (b2 l 10 : Nat)) = ((b2 l 4 + b2 l 6 + b2 l 8 + b2 l 10 : Nat) : Int) := by rw [w64 (by omega) (by omega)]; omega
  by_cases g3 : 400 < b2 l 4 + b2 l 6 + b2 l 8 + b2 l 10
  · rw [if_pos g3]
    have g3' : (400 : Int) < ((b2 l 4 + b2 l 6 + b2 l 8 + b2 l 10 : Nat) : Int) := by omega
    simp -implicitDefEqProofs only [bU, reduceIte, Nat.reduceEqDiff, reduceCtorEq, implies_true, forall_const, eq_self, Nat.reduceAdd, Nat.reduceLT, bne_self_eq_false, bT, eq_self, true_implies, false_implies, forall_const, if_true, if_false, Int.reduceToNat, Nat.reduceSub, Int.reduceLE, bV, Nat.reduceAdd, Nat.reduceLT, Nat.reduceLeDiff, Nat.reduceLeDiff, l1, l2, g1', oa, k1, Int.reduceEq, Int.reduceLT, Int.reduceToNat, Nat.reduceMul, show ((4 : Nat) : Int) = 4 from rfl, w1, w2, w3, g3', endK, rsC, rsV, resV]
    exact ⟨.refl H1, rfl⟩
  rw [if_neg g3]
  have g3' : ¬ (400 : Int) < ((b2 l 4 + b2 l 6 + b2 l 8 + b2 l 10 : Nat) : Int) := by omega
  generalize hdOf (l.take 12) = hh at *
  have hd := DS.start (h := hh) h hc hl (by omega) hF
  obtain ⟨s1, s2⟩ := mCs_st (H := H1.new (.arr true 0 3 [.ag [a, .i .i64 12, .i .i64 0]])) (h := hh)
  simp only [mzV, mCs] at s1 s2 hd
  have hnn : (H1.new (.arr true 0 3 [.ag [a, .i .i64 12, .i .i64 0]])).n = H1.n + 1 := rfl
  rw [hnn] at s1 s2
  generalize hH2 : (((H1.new (.arr true 0 3 [.ag [a, .i .i64 12, .i .i64 0]])).new (.arr true 0 15 [.ag [.i .i64 0, .b false, .i .i64 0, .b false, .b false, .b false, .b false, .b false, .b false, .b false, .i .i64 0, .ns, .ns, .ns, .ns]])).set (H1.n + 1) (.arr true 0 15 [.ag [.i .i64 hh.id, .b hh.qr, .i .i64 hh.op, .b hh.aa, .b hh.tc, .b hh.rd, .b hh.ra, .b hh.z, .b hh.ad, .b hh.cd, .i .i64 hh.code, .ns, .ns, .ns, .ns]])) = H2 at s2 hd
  simp -implicitDefEqProofs only [bU, reduceIte, Nat.reduceEqDiff, reduceCtorEq, implies_true, forall_const, eq_self, Nat.reduceAdd, Nat.reduceLT, bne_self_eq_false, bT, eq_self, true_implies, false_implies, forall_const, if_true, if_false, Int.reduceToNat, Nat.reduceSub, Int.reduceLE, bV, Nat.reduceAdd, Nat.reduceLT, Nat.reduceLeDiff, Nat.reduceLeDiff, pv_faC, pv_faV, l1, l2, g1', oa, oc, k1, hnn, s1, s2, Int.reduceEq, Int.reduceLT, Int.reduceToNat, Nat.reduceMul, show ((4 : Nat) : Int) = 4 from rfl, w1, w2, w3, g3']
  generalize hRR : msgQ l (b2 l 4) ⟨hh, [], [], [], []⟩ 12 = R
  refine exec_loop (fun n e M => ∃ (j p : Nat) (code : Int) (qs : List Qn) (q : AV) (H' : AH) (L : List Lv) (g : Nat), j ≤ b2 l 4 ∧ n = b2 l 4 - j ∧ qs.length = j ∧ look e 0 = a ∧ look e 2 = .la 2 0 0 0 ∧ look e 5 = .la 5 2 0 0 ∧ look e 7 = .pv H1.n 0 ∧ look e 8 = .pv (H1.n + 1) 0 ∧ look e 9 = .i .i64 j ∧
    M = ⟨L, g, H'⟩ ∧ keepL [0, 2, 5, 7, 8, 9] L = lsD l ∧ DS H1 H' a l p code q .ns .ns .ns ⟨hh, qs, [], [], []⟩ ∧ (code = 0 → R = msgQ l (b2 l 4 - j) ⟨hh, qs, [], [], []⟩ p) ∧ (code ≠ 0 → R = .error code)) ?_ (n := b2 l 4)
    ⟨0, 12, 0, [], .ns, H2, _, _, by omega, by omega, rfl, rfl, rfl, rfl, rfl, rfl, rfl, rfl, rfl, hd, fun _ => hRR.symm, fun h => absurd rfl h⟩
  clear hd s1 s2 hH2 hRR
  rintro n e M ⟨j, p, code, qs, q, H', L, g, hj, rfl, hqs, q0, q2, q5, q7, q8, q9, rfl, hL, hd, hg1, hg2⟩
  simp only [lsD, mV, cntL, hd0] at hL
  obtain ⟨⟨d1, d2, d3⟩, d4, d5, d6⟩ := hd.dec.lds
  have hp := hd.dec.hp
  by_cases h1 : (j : Int) < (b2 l 4 : Nat) ∧ code = 0
  · obtain ⟨h1, rfl⟩ := h1
    have hg := hg1 rfl
    clear hg1 hg2
    have w4 : IntKind.i64.wrap ((j : Int) + 1) = ((j + 1 : Nat) : Int) := by rw [w64 (by omega) (by omega)]; rfl
    rw [show b2 l 4 - j = (b2 l 4 - (j + 1)) + 1 by omega, msgQ_s] at hg
    obtain ⟨v2, H3, k2, f2, hpost⟩ := hN H1.n a l p H' hd.dec
    have key : ∃ s p3 c3, v2 = .s s ∧ Dec H3 H1.n a l p3 c3 ∧ (c3 ≠ 0 → R = .error c3) ∧ (c3 = 0 → R = if l.length < p3 + 4 then .error 8 else msgQ l (b2 l 4 - (j + 1)) ⟨hh, qs ++ [⟨s, (b2 l p3 : Nat), (b2 l (p3 + 2) : Nat)⟩], [], [], []⟩ (p3 + 4)) := by
      cases hdn : dn l p p none [] with
      | error c =>
        rw [hdn] at hg hpost
        exact ⟨[], p, c, hpost.1, hpost.2, fun _ => hg, fun e => absurd e (dn_e hdn)⟩
      | ok r =>
        obtain ⟨s, k⟩ := r
        rw [hdn] at hg hpost
        exact ⟨s, k, 0, hpost.1, hpost.2, fun e => absurd rfl e, fun _ => hg⟩
    clear hpost hg
    obtain ⟨s, p3, c3, rfl, d7, x1, x2⟩ := key
    obtain ⟨T1, T2, H4, H5, p5, c5, k3, k4, n1, n2, d8, f3, y1, y2, y3⟩ := take2 hT d7
    have u1 := fun H => hU T1 H (by omega)
    have u2 := fun H => hU T2 H (by omega)
    have hd5 := hd.kp (f2.trans f3) d8
    have hrow := fun (L : List Lv) (g : Nat) => hd5.rowQ (lit_srcQ (t := 73) (g := g) (x := ⟨s, (num (T1.take 2) 0 : Nat), (num (T2.take 2) 0 : Nat)⟩) (L := L) (H := H5)) (by simp only; omega)
    obtain ⟨⟨m1, m2⟩, -⟩ := hd5.fld
    simp -implicitDefEqProofs only [bU, reduceIte, Nat.reduceEqDiff, reduceCtorEq, implies_true, forall_const, eq_self, Nat.reduceAdd, Nat.reduceLT, bne_self_eq_false, bT, eq_self, true_implies, false_implies, forall_const, if_true, if_false, Int.reduceToNat, Nat.reduceSub, Int.reduceLE, bV, Nat.reduceAdd, Nat.reduceLT, Nat.reduceLeDiff, Nat.reduceLeDiff, lgAt, isRd, pv_faC, pv_faV, q0, q2, q5, q7, q8, q9, hL, d1, d2, d3, d4, d5, d6, h1, k2, k3, k4, u1, u2, m1, m2, w4, Int.reduceEq, Int.reduceLT, Int.reduceToNat, Nat.reduceMul, show ((4 : Nat) : Int) = 4 from rfl, fillEC, fillE, List.replicate, List.set]
    obtain ⟨p1, q', H6, p2, p3', o1, o2, s1, H7, s2, hd7⟩ := hrow (⟨10, g, 0, [.ag [.s s, .i .i64 (num (T1.take 2) 0 : Nat), .i .i64 (num (T2.take 2) 0 : Nat)]]⟩ :: lsD l) (g + 1)
    simp only [lsD, mV, cntL, hd0] at p1 p2 p3'
    simp -implicitDefEqProofs only [bU, reduceIte, Nat.reduceEqDiff, reduceCtorEq, implies_true, forall_const, eq_self, Nat.reduceAdd, Nat.reduceLT, bne_self_eq_false, bT, eq_self, true_implies, false_implies, forall_const, if_true, if_false, Int.reduceToNat, Nat.reduceSub, Int.reduceLE, bV, Nat.reduceAdd, Nat.reduceLT, Nat.reduceLeDiff, Nat.reduceLeDiff, pv_faC, pv_faV, p1, p2, p3', o1, o2, s1, s2]
    refine ⟨b2 l 4 - (j + 1), by omega, j + 1, p5, c5, _, q', H7, _, _, by omega, rfl, by rw [List.length_append, hqs]; rfl, rfl, rfl, rfl, hd7, fun hc5 => ?_, fun hc5 => ?_⟩
    · by_cases hc3 : c3 = 0
      · by_cases h2 : l.length < p3 + 4
        · have := y2 hc3 h2; omega
        · obtain ⟨-, rfl, rfl, rfl⟩ := y3 hc3 (by omega)
          rw [x2 hc3, if_neg h2]
          have b0 : num (((l.drop p3).take 2).take 2) 0 = b2 l p3 := by unfold b2; rw [List.take_take]; rfl
          have b02 : num (((l.drop (p3 + 2)).take 2).take 2) 0 = b2 l (p3 + 2) := by unfold b2; rw [List.take_take]; rfl
          rw [b0, b02]
      · have := y1 hc3; omega
    · by_cases hc3 : c3 = 0
      · by_cases h2 : l.length < p3 + 4
        · rw [x2 hc3, if_pos h2, y2 hc3 h2]
        · have := (y3 hc3 (by omega)).1; omega
      · rw [y1 hc3]; exact x1 hc3
  · have hg3 : code = 0 → R = msgK l 1 ⟨hh, qs, [], [], []⟩ p 0 := fun hc => by
      have : b2 l 4 - j = 0 := by omega
      rw [hg1 hc, this]; rfl
    clear hg1
    have ht := fun (g : Nat) (e : Env) => r_dcTail (p0 := p) (la0 := 0) (g := g) (e := e) hR hd hg3 hg2 (by omega)
    simp only [lsD, mV, cntL, hd0] at ht
    have hb : ¬ ((j : Int) < (b2 l 4 : Nat)) ∨ ((j : Int) < (b2 l 4 : Nat) ∧ ¬ code = 0) := by
      by_cases h2 : (j : Int) < (b2 l 4 : Nat)
      · exact .inr ⟨h2, fun h => h1 ⟨h2, h⟩⟩
      · exact .inl h2
    rcases hb with h2 | ⟨h2, h3⟩
    · simp -implicitDefEqProofs only [bU, reduceIte, Nat.reduceEqDiff, reduceCtorEq, implies_true, forall_const, eq_self, Nat.reduceAdd, Nat.reduceLT, bne_self_eq_false, bT, eq_self, true_implies, false_implies, forall_const, if_true, if_false, Int.reduceToNat, Nat.reduceSub, Int.reduceLE, bV, Nat.reduceAdd, Nat.reduceLT, Nat.reduceLeDiff, Nat.reduceLeDiff, pv_faC, pv_faV, q0, q2, q5, q7, q8, q9, hL, h2, Int.reduceLT, Int.reduceToNat, Nat.reduceMul, show ((4 : Nat) : Int) = 4 from rfl]
      rw [hB']
      exact ht _ _ (by simp -implicitDefEqProofs only [bU, reduceIte, Nat.reduceEqDiff, reduceCtorEq, implies_true, forall_const, eq_self, Nat.reduceAdd, Nat.reduceLT, bne_self_eq_false, bT, eq_self, true_implies, false_implies, forall_const, if_true, if_false, Int.reduceToNat, Nat.reduceSub, Int.reduceLE, q0]) (by simp -implicitDefEqProofs only [bU, reduceIte, Nat.reduceEqDiff, reduceCtorEq, implies_true, forall_const, eq_self, Nat.reduceAdd, Nat.reduceLT, bne_self_eq_false, bT, eq_self, true_implies, false_implies, forall_const, if_true, if_false, Int.reduceToNat, Nat.reduceSub, Int.reduceLE, q2]) (by simp -implicitDefEqProofs only [bU, reduceIte, Nat.reduceEqDiff, reduceCtorEq, implies_true, forall_const, eq_self, Nat.reduceAdd, Nat.reduceLT, bne_self_eq_false, bT, eq_self, true_implies, false_implies, forall_const, if_true, if_false, Int.reduceToNat, Nat.reduceSub, Int.reduceLE, q5]) (by simp -implicitDefEqProofs only [bU, reduceIte, Nat.reduceEqDiff, reduceCtorEq, implies_true, forall_const, eq_self, Nat.reduceAdd, Nat.reduceLT, bne_self_eq_false, bT, eq_self, true_implies, false_implies, forall_const, if_true, if_false, Int.reduceToNat, Nat.reduceSub, Int.reduceLE, q7]) (by simp -implicitDefEqProofs only [bU, reduceIte, Nat.reduceEqDiff, reduceCtorEq, implies_true, forall_const, eq_self, Nat.reduceAdd, Nat.reduceLT, bne_self_eq_false, bT, eq_self, true_implies, false_implies, forall_const, if_true, if_false, Int.reduceToNat, Nat.reduceSub, Int.reduceLE, q8])
    · simp -implicitDefEqProofs only [bU, reduceIte, Nat.reduceEqDiff, reduceCtorEq, implies_true, forall_const, eq_self, Nat.reduceAdd, Nat.reduceLT, bne_self_eq_false, bT, eq_self, true_implies, false_implies, forall_const, if_true, if_false, Int.reduceToNat, Nat.reduceSub, Int.reduceLE, bV, Nat.reduceAdd, Nat.reduceLT, Nat.reduceLeDiff, Nat.reduceLeDiff, pv_faC, pv_faV, q0, q2, q5, q7, q8, q9, hL, h2, h3, d1, d2, d3, d4, d5, d6, Int.reduceLT, Int.reduceToNat, Nat.reduceMul, show ((4 : Nat) : Int) = 4 from rfl]
      rw [hB']
      exact ht _ _ (by simp -implicitDefEqProofs only [bU, reduceIte, Nat.reduceEqDiff, reduceCtorEq, implies_true, forall_const, eq_self, Nat.reduceAdd, Nat.reduceLT, bne_self_eq_false, bT, eq_self, true_implies, false_implies, forall_const, if_true, if_false, Int.reduceToNat, Nat.reduceSub, Int.reduceLE, q0]) (by simp -implicitDefEqProofs only [bU, reduceIte, Nat.reduceEqDiff, reduceCtorEq, implies_true, forall_const, eq_self, Nat.reduceAdd, Nat.reduceLT, bne_self_eq_false, bT, eq_self, true_implies, false_implies, forall_const, if_true, if_false, Int.reduceToNat, Nat.reduceSub, Int.reduceLE, q2]) (by simp -implicitDefEqProofs only [bU, reduceIte, Nat.reduceEqDiff, reduceCtorEq, implies_true, forall_const, eq_self, Nat.reduceAdd, Nat.reduceLT, bne_self_eq_false, bT, eq_self, true_implies, false_implies, forall_const, if_true, if_false, Int.reduceToNat, Nat.reduceSub, Int.reduceLE, q5]) (by simp -implicitDefEqProofs only [bU, reduceIte, Nat.reduceEqDiff, reduceCtorEq, implies_true, forall_const, eq_self, Nat.reduceAdd, Nat.reduceLT, bne_self_eq_false, bT, eq_self, true_implies, false_implies, forall_const, if_true, if_false, Int.reduceToNat, Nat.reduceSub, Int.reduceLE, q7]) (by simp -implicitDefEqProofs only [bU, reduceIte, Nat.reduceEqDiff, reduceCtorEq, implies_true, forall_const, eq_self, Nat.reduceAdd, Nat.reduceLT, bne_self_eq_false, bT, eq_self, true_implies, false_implies, forall_const, if_true, if_false, Int.reduceToNat, Nat.reduceSub, Int.reduceLE, q8])
end
end Go.Vm
