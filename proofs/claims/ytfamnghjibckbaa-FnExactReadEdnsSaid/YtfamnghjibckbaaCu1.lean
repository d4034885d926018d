/- Runs of helpers over slices of rows of bytes. -/
import Derived.Test.YtfamnghjibckbaaCu0
namespace Go.Vm
set_option linter.unusedVariables false
set_option linter.unusedSimpArgs false
def T_toByteS (C : Tab) (f : Nat) : Prop := ∀ a l H, Byt H a l → l.length ≤ 1099511627776 → ∃ v H', C f [a] H = some (v, H') ∧ Mb H' v l ∧ Ext H H' ∧ ∀ i, i ∈ idA v → H.n ≤ i
def T_eqByteS (C : Tab) (f : Nat) : Prop := ∀ a b l H, Byt H a l → Byt H b l → l.length ≤ 1099511627776 → C f [a, b] H = some (.b true, H)
def T_markByteS (C : Tab) (f : Nat) : Prop := ∀ (a : AV) (l : List UInt8) (k : Nat) (H : AH), Mb H a l → l.length ≤ 1099511627776 → k ≤ 1099511627776 →
  ∃ H', C f [a, .i .i64 k] H = some (.i .i64 ((k + l.length : Nat) : Int), H') ∧ Mb H' a (marks k l.length) ∧ H'.n = H.n ∧ ∀ i, ¬ i ∈ idA a → H'.at' i = H.at' i
def T_heldByteS (C : Tab) (f : Nat) : Prop := ∀ (a : AV) (m k : Nat) (H : AH), Byt H a (marks k m) → m ≤ 1099511627776 → k ≤ 1099511627776 → C f [a, .i .i64 k] H = some (.i .i64 ((k + m : Nat) : Int), H)
def T_l02Num (C : Tab) (f : Nat) : Prop := ∀ l H, l.length ≤ 7 → C f [.s l] H = some (.i .i64 ((num l 0 : Nat) : Int), H)
/-- The bytes of a list of rows. -/
def tot : List (List UInt8) → Nat
  | [] => 0
  | l :: r => l.length + tot r
theorem tot_app : ∀ l m : List (List UInt8), tot (l ++ m) = tot l + tot m
  | [], m => by simp [tot]
  | x :: l, m => by simp [tot, tot_app l m]; omega
def marksS : Nat → List (List UInt8) → List (List UInt8)
  | _, [] => []
  | k, l :: r => marks k l.length :: marksS (k + l.length) r
theorem marksS_app : ∀ (l m : List (List UInt8)) (k : Nat), marksS k (l ++ m) = marksS k l ++ marksS (k + tot l) m
  | [], m, k => by simp [marksS, tot]
  | x :: l, m, k => by simp [marksS, tot, marksS_app l m, Nat.add_assoc]
theorem All2.split {α β : Type} {R : α → β → Prop} : ∀ {l : List α} {m : List β} (i : Nat), All2 R l m → i < l.length → ∃ d x t d' y t', l = d ++ x :: t ∧ m = d' ++ y :: t' ∧ d.length = i ∧ d'.length = i ∧ All2 R d d' ∧ R x y ∧ All2 R t t'
  | x :: l, y :: m, 0, h, _ => ⟨[], x, l, [], y, m, rfl, rfl, rfl, rfl, trivial, h.1, h.2⟩
  | x :: l, y :: m, i + 1, h, hi => by
    obtain ⟨d, x', t, d', y', t', h1, h2, h3, h4, h5, h6, h7⟩ := All2.split i h.2 (by simpa using hi)
    exact ⟨x :: d, x', t, y :: d', y', t', by rw [h1]; rfl, by rw [h2]; rfl, by simp [h3], by simp [h4], ⟨h.1, h5⟩, h6, h7⟩
  | [], [], _, _, hi => by simp at hi
  | [], _ :: _, _, h, _ => h.elim
  | _ :: _, [], _, h, _ => h.elim
theorem getD_mid {α : Type} {d : List α} {x u : α} {t : List α} {i : Nat} (h : d.length = i) : (d ++ x :: t).getD i u = x := by
  subst h; simp [List.getD]
section
variable {C : Tab}
theorem tot_mem {ls : List (List UInt8)} {l : List UInt8} (h : l ∈ ls) : l.length ≤ tot ls := by
  induction ls with
  | nil => cases h
  | cons x r ih =>
    rcases List.mem_cons.1 h with rfl | h
    · simp [tot]
    · have := ih h; simp [tot]; omega
theorem r_eqByteSS {a b : AV} {els els' : List AV} {ls : List (List UInt8)} {H : AH} (hC : T_eqByteS C n_laws_eqByteS) (h : Sl H 1 a els) (h' : Sl H 1 b els') (hb : All2 (Byt H) els ls) (hb' : All2 (Byt H) els' ls) (hl : tot ls ≤ 1099511627776) (hn : ls.length ≤ 1099511627776) :
    Runs C c_laws_eqByteSS [a, b] H fun v H' => v = .b true ∧ H' = H := by
  unfold Runs c_laws_eqByteSS
  obtain ⟨h1, h2⟩ := h.len
  obtain ⟨h3, h4⟩ := h'.len
  rw [hb.len] at h1
  rw [hb'.len] at h3
  simp only [x_q, x_o, x_b, x_k, x_x, x_r, x_i, x_p, doPs, cfC, lgPut, isOk, rv, rh, Bool.false_eq_true, doOs, okO, vlO, mmO, dsO, putE, args, evT, evs, evO, look, kOps, kSeq, kBlk, keepE, reduceIte, Nat.reduceEqDiff, binC, binV, intC, intV, strC, strV, unC, unV, AV.isI, AV.isB, AV.isS, AV.toI, AV.toK, AV.toS, allOut, o_b, o_i, o_s, o_np, o_pv, o_pe, o_ns, o_sl, o_nm, o_mp, o_nf, o_fn, o_ag, q_b, q_i, q_s, q_np, q_pv, q_pe, q_ns, q_sl, q_nm, q_mp, q_nf, q_fn, q_ag, Bool.and_true, Bool.and_self, Bool.true_and, AV.b.injEq, decide_eq_true_eq, decide_eq_false_iff_not, true_and, and_true, and_self, h1, h2, h3, h4]
  refine ⟨fun h => by simp at h, fun _ => exec_loop (fun n e M => ∃ i : Nat, i ≤ ls.length ∧ n = ls.length - i ∧ look e 0 = a ∧ look e 1 = b ∧ look e 5 = .i .i64 i ∧ ∃ L g, M = ⟨L, g, H⟩) ?_ (n := ls.length) ⟨0, by omega, by omega, rfl, rfl, rfl, _, _, rfl⟩⟩
  rintro n e M ⟨i, hi, rfl, q0, q1, q5, L, g, rfl⟩
  simp only [x_q, x_o, x_b, x_k, x_x, x_r, x_i, x_p, doPs, cfC, lgPut, isOk, rv, rh, Bool.false_eq_true, doOs, okO, vlO, mmO, dsO, putE, args, evT, evs, evO, look, kOps, kSeq, kBlk, keepE, reduceIte, Nat.reduceEqDiff, binC, binV, intC, intV, strC, strV, unC, unV, AV.isI, AV.isB, AV.isS, AV.toI, AV.toK, AV.toS, allOut, o_b, o_i, o_s, o_np, o_pv, o_pe, o_ns, o_sl, o_nm, o_mp, o_nf, o_fn, o_ag, q_b, q_i, q_s, q_np, q_pv, q_pe, q_ns, q_sl, q_nm, q_mp, q_nf, q_fn, q_ag, Bool.and_true, Bool.and_self, Bool.true_and, AV.b.injEq, decide_eq_true_eq, decide_eq_false_iff_not, true_and, and_true, and_self, q0, q1, q5, h1, h2, Mem.keep]
  refine ⟨fun hlt => ?_, fun hge => ?_⟩
  · obtain ⟨y, hy⟩ : ∃ y, ls[i]? = some y := ⟨ls[i]'(by omega), List.getElem?_eq_getElem (by omega)⟩
    have hle := hb.len
    have hle' := hb'.len
    obtain ⟨d, x, t, d', y, t', e1, e2, e3, e4, -, hx, -⟩ := hb.split i (by omega)
    obtain ⟨f, x2, u', f', y2, u'', g1, g2, g3, g4, -, hx2, -⟩ := hb'.split i (by omega)
    have hyy : y2 = y := by
      have e5 : ls.getD i [] = y := by rw [e2]; exact getD_mid e4
      have e6 : ls.getD i [] = y2 := by rw [g2]; exact getD_mid g4
      rw [← e5, e6]
    subst hyy
    have hx1 : els.getD i .u = x := by rw [e1]; exact getD_mid e3
    have hx3 : els'.getD i .u = x2 := by rw [g1]; exact getD_mid g3
    obtain ⟨b1, b2, b3, b4⟩ := h.ia1 (j := i) (v := x) (by omega) (by omega) (by rw [toNat_nat, hx1]; exact Sl.one hx) (keepL [0, 1, 5] L) g
    obtain ⟨c1, c2, c3, c4⟩ := h'.ia1 (j := i) (v := x2) (by omega) (by omega) (by rw [toNat_nat, hx3]; exact Sl.one hx2) (keepL [0, 1, 5] L) g
    have hty := tot_mem (l := y2) (ls := ls) (by rw [e2]; simp)
    have hcall := hC x x2 y2 H hx hx2 (by omega)
    simp only [b1, b2, b3, b4, c1, c2, c3, c4, hcall, Sl.out hx, Sl.out hx2, x_q, x_o, x_b, x_k, x_x, x_r, x_i, x_p, doPs, cfC, lgPut, isOk, rv, rh, Bool.false_eq_true, doOs, okO, vlO, mmO, dsO, putE, args, evT, evs, evO, look, kOps, kSeq, kBlk, keepE, reduceIte, Nat.reduceEqDiff, binC, binV, intC, intV, strC, strV, unC, unV, AV.isI, AV.isB, AV.isS, AV.toI, AV.toK, AV.toS, allOut, o_b, o_i, o_s, o_np, o_pv, o_pe, o_ns, o_sl, o_nm, o_mp, o_nf, o_fn, o_ag, q_b, q_i, q_s, q_np, q_pv, q_pe, q_ns, q_sl, q_nm, q_mp, q_nf, q_fn, q_ag, Bool.and_true, Bool.and_self, Bool.true_and, AV.b.injEq, decide_eq_true_eq, decide_eq_false_iff_not, true_and, and_true, and_self]
    refine ⟨fun h => by simp at h, fun _ => ⟨ls.length - (i + 1), by omega, i + 1, by omega, rfl, by rw [w64 (by omega) (by omega)]; rfl, _, _, rfl⟩⟩
  · simp only [x_q, x_o, x_b, x_k, x_x, x_r, x_i, x_p, doPs, cfC, lgPut, isOk, rv, rh, Bool.false_eq_true, doOs, okO, vlO, mmO, dsO, putE, args, evT, evs, evO, look, kOps, kSeq, kBlk, keepE, reduceIte, Nat.reduceEqDiff, binC, binV, intC, intV, strC, strV, unC, unV, AV.isI, AV.isB, AV.isS, AV.toI, AV.toK, AV.toS, allOut, o_b, o_i, o_s, o_np, o_pv, o_pe, o_ns, o_sl, o_nm, o_mp, o_nf, o_fn, o_ag, q_b, q_i, q_s, q_np, q_pv, q_pe, q_ns, q_sl, q_nm, q_mp, q_nf, q_fn, q_ag, Bool.and_true, Bool.and_self, Bool.true_and, AV.b.injEq, decide_eq_true_eq, decide_eq_false_iff_not, true_and, and_true, and_self, endK, rsC, rsV, resV]
theorem r_markByteSS {a : AV} {els : List AV} {ls : List (List UInt8)} {k : Nat} {H : AH} (hC : T_markByteS C n_laws_markByteS) (h : Sl H 1 a els) (hb : All2 (Mb H) els ls) (hd : (idA a ++ els.flatMap idA).Nodup) (hl : k + tot ls ≤ 1099511627776) (hn : ls.length ≤ 1099511627776) :
    Runs C c_laws_markByteSS [a, .i .i64 k] H fun v H' => v = .i .i64 ((k + tot ls : Nat) : Int) ∧ All2 (Mb H') els (marksS k ls) ∧ H'.n = H.n ∧ ∀ i, ¬ i ∈ els.flatMap idA → H'.at' i = H.at' i := by
  unfold Runs c_laws_markByteSS
  have hlen := hb.len
  rw [List.nodup_append] at hd
  obtain ⟨-, hd2, hd3⟩ := hd
  simp only [x_q, x_o, x_b, x_k, x_x, x_r, x_i, x_p, doPs, cfC, lgPut, isOk, rv, rh, Bool.false_eq_true, doOs, okO, vlO, mmO, dsO, putE, args, evT, evs, evO, look, kOps, kSeq, kBlk, keepE, reduceIte, Nat.reduceEqDiff, binC, binV, intC, intV, strC, strV, unC, unV, AV.isI, AV.isB, AV.isS, AV.toI, AV.toK, AV.toS, allOut, o_b, o_i, o_s, o_np, o_pv, o_pe, o_ns, o_sl, o_nm, o_mp, o_nf, o_fn, o_ag, q_b, q_i, q_s, q_np, q_pv, q_pe, q_ns, q_sl, q_nm, q_mp, q_nf, q_fn, q_ag, Bool.and_true, Bool.and_self, Bool.true_and, AV.b.injEq, decide_eq_true_eq, decide_eq_false_iff_not, true_and, and_true, and_self]
  refine exec_loop (fun n e M => ∃ d t ld lt, els = d ++ t ∧ ls = ld ++ lt ∧ d.length = ld.length ∧ n = lt.length ∧ look e 0 = a ∧ look e 1 = .i .i64 ((k + tot ld : Nat) : Int) ∧ look e 5 = .i .i64 (d.length : Nat) ∧ ∃ L g H', M = ⟨L, g, H'⟩ ∧ All2 (Mb H') d (marksS k ld) ∧ All2 (Mb H') t lt ∧ H'.n = H.n ∧ ∀ i, ¬ i ∈ els.flatMap idA → H'.at' i = H.at' i)
    ?_ (n := ls.length) ⟨[], els, [], ls, rfl, rfl, rfl, rfl, rfl, rfl, rfl, _, _, _, rfl, trivial, hb, rfl, fun _ _ => rfl⟩
  rintro n e M ⟨d, t, ld, lt, e1, e2, e3, rfl, q0, q1, q5, L, g, H', rfl, m1, m2, hn', ho⟩
  have hs := h.fr (H' := H') (by omega) fun i hi => ho i fun hm => hd3 i hi i hm rfl
  obtain ⟨h1, h2⟩ := hs.len
  have hls : ls.length = ld.length + lt.length := by rw [e2]; simp
  rw [hlen] at h1
  simp only [x_q, x_o, x_b, x_k, x_x, x_r, x_i, x_p, doPs, cfC, lgPut, isOk, rv, rh, Bool.false_eq_true, doOs, okO, vlO, mmO, dsO, putE, args, evT, evs, evO, look, kOps, kSeq, kBlk, keepE, reduceIte, Nat.reduceEqDiff, binC, binV, intC, intV, strC, strV, unC, unV, AV.isI, AV.isB, AV.isS, AV.toI, AV.toK, AV.toS, allOut, o_b, o_i, o_s, o_np, o_pv, o_pe, o_ns, o_sl, o_nm, o_mp, o_nf, o_fn, o_ag, q_b, q_i, q_s, q_np, q_pv, q_pe, q_ns, q_sl, q_nm, q_mp, q_nf, q_fn, q_ag, Bool.and_true, Bool.and_self, Bool.true_and, AV.b.injEq, decide_eq_true_eq, decide_eq_false_iff_not, true_and, and_true, and_self, q0, q1, q5, h1, h2, Mem.keep]
  refine ⟨fun hlt => ?_, fun hge => ?_⟩
  · cases t with
    | nil => cases lt with
      | nil => simp at hls; omega
      | cons => exact m2.elim
    | cons x t => cases lt with
      | nil => exact m2.elim
      | cons y lt =>
        have hx : els.getD d.length .u = x := by rw [e1]; exact getD_mid rfl
        obtain ⟨b1, b2, b3, b4⟩ := hs.ia1 (j := d.length) (v := x) (by omega) (by rw [hlen]; omega) (by rw [toNat_nat, hx]; exact Sl.one (Mn.sl m2.1)) (keepL [0, 1, 5] L) g
        have htot : tot ls = tot ld + (y.length + tot lt) := by rw [e2, tot_app]; rfl
        obtain ⟨H2, c1, c2, c3, c4⟩ := hC x y (k + tot ld) H' m2.1 (by omega) (by omega)
        simp only [b1, b2, b3, b4, c1, Sl.out (Mn.sl m2.1), x_q, x_o, x_b, x_k, x_x, x_r, x_i, x_p, doPs, cfC, lgPut, isOk, rv, rh, Bool.false_eq_true, doOs, okO, vlO, mmO, dsO, putE, args, evT, evs, evO, look, kOps, kSeq, kBlk, keepE, reduceIte, Nat.reduceEqDiff, binC, binV, intC, intV, strC, strV, unC, unV, AV.isI, AV.isB, AV.isS, AV.toI, AV.toK, AV.toS, allOut, o_b, o_i, o_s, o_np, o_pv, o_pe, o_ns, o_sl, o_nm, o_mp, o_nf, o_fn, o_ag, q_b, q_i, q_s, q_np, q_pv, q_pe, q_ns, q_sl, q_nm, q_mp, q_nf, q_fn, q_ag, Bool.and_true, Bool.and_self, Bool.true_and, AV.b.injEq, decide_eq_true_eq, decide_eq_false_iff_not, true_and, and_true, and_self]
        have hnd : (d.flatMap idA ++ (idA x ++ t.flatMap idA)).Nodup := by rw [e1] at hd2; simpa using hd2
        rw [List.nodup_append] at hnd
        obtain ⟨n1, n2, n3⟩ := hnd
        rw [List.nodup_append] at n2
        refine ⟨lt.length, by simp, d ++ [x], t, ld ++ [y], lt, by rw [e1]; simp, by rw [e2]; simp, by simp [e3], rfl, ?_, ?_, _, _, H2, rfl, ?_, ?_, by omega, fun i hi => ?_⟩
        · rw [tot_app]; simp [tot]; omega
        · rw [w64 (by omega) (by omega)]; simp
        · rw [marksS_app]
          refine All2.append (All2.imp_mem (fun v l hu hm => Mn.fr hm (by omega) fun i hi => c4 i fun hx' => n3 i (List.mem_flatMap.2 ⟨v, hu, hi⟩) i (by simp [hx']) rfl) m1) ⟨c2, trivial⟩
        · exact All2.imp_mem (fun v l hu hm => Mn.fr hm (by omega) fun i hi => c4 i fun hx' => n2.2.2 i hx' i (List.mem_flatMap.2 ⟨v, hu, hi⟩) rfl) m2.2
        · rw [c4 i fun hx' => hi (List.mem_flatMap.2 ⟨x, by rw [e1]; simp, hx'⟩)]
          exact ho i hi
  · have hlt : lt = [] := List.eq_nil_of_length_eq_zero (by omega)
    subst hlt
    have ht : t = [] := List.eq_nil_of_length_eq_zero (by have := m2.len; simpa using this)
    subst ht
    rw [List.append_nil] at e1 e2
    subst e1 e2
    simp only [x_q, x_o, x_b, x_k, x_x, x_r, x_i, x_p, doPs, cfC, lgPut, isOk, rv, rh, Bool.false_eq_true, doOs, okO, vlO, mmO, dsO, putE, args, evT, evs, evO, look, kOps, kSeq, kBlk, keepE, reduceIte, Nat.reduceEqDiff, binC, binV, intC, intV, strC, strV, unC, unV, AV.isI, AV.isB, AV.isS, AV.toI, AV.toK, AV.toS, allOut, o_b, o_i, o_s, o_np, o_pv, o_pe, o_ns, o_sl, o_nm, o_mp, o_nf, o_fn, o_ag, q_b, q_i, q_s, q_np, q_pv, q_pe, q_ns, q_sl, q_nm, q_mp, q_nf, q_fn, q_ag, Bool.and_true, Bool.and_self, Bool.true_and, AV.b.injEq, decide_eq_true_eq, decide_eq_false_iff_not, true_and, and_true, and_self, q1, endK, rsC, rsV, resV]
    exact ⟨m1, hn', ho⟩
theorem r_heldByteSS {a : AV} {els : List AV} {ls : List (List UInt8)} {k : Nat} {H : AH} (hC : T_heldByteS C n_laws_heldByteS) (h : Sl H 1 a els) (hb : All2 (Byt H) els (marksS k ls)) (hl : k + tot ls ≤ 1099511627776) (hn : ls.length ≤ 1099511627776) :
    Runs C c_laws_heldByteSS [a, .i .i64 k] H fun v H' => v = .i .i64 ((k + tot ls : Nat) : Int) ∧ H' = H := by
  unfold Runs c_laws_heldByteSS
  have hlen := hb.len
  obtain ⟨h1, h2⟩ := h.len
  simp only [x_q, x_o, x_b, x_k, x_x, x_r, x_i, x_p, doPs, cfC, lgPut, isOk, rv, rh, Bool.false_eq_true, doOs, okO, vlO, mmO, dsO, putE, args, evT, evs, evO, look, kOps, kSeq, kBlk, keepE, reduceIte, Nat.reduceEqDiff, binC, binV, intC, intV, strC, strV, unC, unV, AV.isI, AV.isB, AV.isS, AV.toI, AV.toK, AV.toS, allOut, o_b, o_i, o_s, o_np, o_pv, o_pe, o_ns, o_sl, o_nm, o_mp, o_nf, o_fn, o_ag, q_b, q_i, q_s, q_np, q_pv, q_pe, q_ns, q_sl, q_nm, q_mp, q_nf, q_fn, q_ag, Bool.and_true, Bool.and_self, Bool.true_and, AV.b.injEq, decide_eq_true_eq, decide_eq_false_iff_not, true_and, and_true, and_self]
  refine exec_loop (fun n e M => ∃ d t ld lt, els = d ++ t ∧ ls = ld ++ lt ∧ d.length = ld.length ∧ n = lt.length ∧ look e 0 = a ∧ look e 1 = .i .i64 ((k + tot ld : Nat) : Int) ∧ look e 5 = .i .i64 (d.length : Nat) ∧ All2 (Byt H) t (marksS (k + tot ld) lt) ∧ ∃ L g, M = ⟨L, g, H⟩)
    ?_ (n := ls.length) ⟨[], els, [], ls, rfl, rfl, rfl, rfl, rfl, rfl, rfl, hb, _, _, rfl⟩
  rintro n e M ⟨d, t, ld, lt, e1, e2, e3, rfl, q0, q1, q5, m2, L, g, rfl⟩
  have hls : ls.length = ld.length + lt.length := by rw [e2]; simp
  have hle : els.length = d.length + t.length := by rw [e1]; simp
  have hm : ∀ (l : List (List UInt8)) (k : Nat), (marksS k l).length = l.length := by
    intro l
    induction l with
    | nil => intro k; rfl
    | cons x r ih => intro k; simp [marksS, ih]
  rw [hm] at hlen
  rw [hlen] at h1
  simp only [x_q, x_o, x_b, x_k, x_x, x_r, x_i, x_p, doPs, cfC, lgPut, isOk, rv, rh, Bool.false_eq_true, doOs, okO, vlO, mmO, dsO, putE, args, evT, evs, evO, look, kOps, kSeq, kBlk, keepE, reduceIte, Nat.reduceEqDiff, binC, binV, intC, intV, strC, strV, unC, unV, AV.isI, AV.isB, AV.isS, AV.toI, AV.toK, AV.toS, allOut, o_b, o_i, o_s, o_np, o_pv, o_pe, o_ns, o_sl, o_nm, o_mp, o_nf, o_fn, o_ag, q_b, q_i, q_s, q_np, q_pv, q_pe, q_ns, q_sl, q_nm, q_mp, q_nf, q_fn, q_ag, Bool.and_true, Bool.and_self, Bool.true_and, AV.b.injEq, decide_eq_true_eq, decide_eq_false_iff_not, true_and, and_true, and_self, q0, q1, q5, h1, h2, Mem.keep]
  refine ⟨fun hlt => ?_, fun hge => ?_⟩
  · cases t with
    | nil => simp at hle; omega
    | cons x t => cases lt with
      | nil => exact m2.elim
      | cons y lt =>
        have hx : els.getD d.length .u = x := by rw [e1]; exact getD_mid rfl
        obtain ⟨b1, b2, b3, b4⟩ := h.ia1 (j := d.length) (v := x) (by omega) (by rw [hlen]; omega) (by rw [toNat_nat, hx]; exact Sl.one m2.1) (keepL [0, 1, 5] L) g
        have htot : tot ls = tot ld + (y.length + tot lt) := by rw [e2, tot_app]; rfl
        have c1 := hC x y.length (k + tot ld) H m2.1 (by omega) (by omega)
        simp only [b1, b2, b3, b4, c1, Sl.out m2.1, x_q, x_o, x_b, x_k, x_x, x_r, x_i, x_p, doPs, cfC, lgPut, isOk, rv, rh, Bool.false_eq_true, doOs, okO, vlO, mmO, dsO, putE, args, evT, evs, evO, look, kOps, kSeq, kBlk, keepE, reduceIte, Nat.reduceEqDiff, binC, binV, intC, intV, strC, strV, unC, unV, AV.isI, AV.isB, AV.isS, AV.toI, AV.toK, AV.toS, allOut, o_b, o_i, o_s, o_np, o_pv, o_pe, o_ns, o_sl, o_nm, o_mp, o_nf, o_fn, o_ag, q_b, q_i, q_s, q_np, q_pv, q_pe, q_ns, q_sl, q_nm, q_mp, q_nf, q_fn, q_ag, Bool.and_true, Bool.and_self, Bool.true_and, AV.b.injEq, decide_eq_true_eq, decide_eq_false_iff_not, true_and, and_true, and_self]
        refine ⟨fun h => by omega, fun _ => ⟨lt.length, by simp, d ++ [x], t, ld ++ [y], lt, by rw [e1]; simp, by rw [e2]; simp, by simp [e3], rfl, ?_, ?_, ?_, _, _, rfl⟩⟩
        · rw [tot_app]; simp [tot]; omega
        · rw [w64 (by omega) (by omega)]; simp
        · rw [tot_app]; simpa [tot, Nat.add_assoc] using m2.2
  · have hlt : lt = [] := List.eq_nil_of_length_eq_zero (by omega)
    subst hlt
    rw [List.append_nil] at e2
    subst e2
    simp only [x_q, x_o, x_b, x_k, x_x, x_r, x_i, x_p, doPs, cfC, lgPut, isOk, rv, rh, Bool.false_eq_true, doOs, okO, vlO, mmO, dsO, putE, args, evT, evs, evO, look, kOps, kSeq, kBlk, keepE, reduceIte, Nat.reduceEqDiff, binC, binV, intC, intV, strC, strV, unC, unV, AV.isI, AV.isB, AV.isS, AV.toI, AV.toK, AV.toS, allOut, o_b, o_i, o_s, o_np, o_pv, o_pe, o_ns, o_sl, o_nm, o_mp, o_nf, o_fn, o_ag, q_b, q_i, q_s, q_np, q_pv, q_pe, q_ns, q_sl, q_nm, q_mp, q_nf, q_fn, q_ag, Bool.and_true, Bool.and_self, Bool.true_and, AV.b.injEq, decide_eq_true_eq, decide_eq_false_iff_not, true_and, and_true, and_self, q1, endK, rsC, rsV, resV]
end
end Go.Vm
