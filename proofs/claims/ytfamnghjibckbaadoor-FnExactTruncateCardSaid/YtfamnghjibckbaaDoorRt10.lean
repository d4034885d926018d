import Derived.Test.YtfamnghjibckbaaDoorRt3
import Derived.Test.YtfamnghjibckbaaDoorRt9
import Derived.Test.YtfamnghjibckbaaDoorRt7
/- The specification's writer of messages: names. -/
namespace Go.Vm
set_option linter.unusedVariables false
set_option linter.unusedSimpArgs false
theorem fnd_drop {es : List (List UInt8 × Nat)} {n : List UInt8} {i : Nat} (hi : i < es.length) (hne : es[i].1 ≠ n) : fnd (es.drop i) n = fnd (es.drop (i + 1)) n := by
  rw [List.drop_eq_getElem_cons hi, fnd, if_neg hne]
theorem lab_cons {c : UInt8} {r : List UInt8} (h : (labGo (c :: r)).isSome = true) : (c = 0 ∧ r = []) ∨ (c ≠ 0 ∧ c.toNat ≤ r.length ∧ (labGo (r.drop c.toNat)).isSome = true) := by
  rw [labGo] at h
  by_cases h0 : c.toNat = 0
  · rw [if_pos h0] at h
    by_cases hr : r = []
    · exact .inl ⟨UInt8.toNat_inj.1 h0, hr⟩
    · rw [if_neg hr] at h; cases h
  · rw [if_neg h0] at h
    by_cases h1 : 63 < c.toNat ∨ r.length < c.toNat
    · rw [dif_pos h1] at h; cases h
    · rw [dif_neg h1, Option.isSome_map] at h
      exact .inr ⟨fun e => h0 (by rw [e]; rfl), by omega, h⟩
def T_wname (C : Tab) (f : Nat) : Prop := ∀ (n0 pid : Nat) (s : EncSt) (n : List UInt8) (H : AH), WS H n0 pid s → nearS s → (labGo n).isSome = true → s.1.length + n.length ≤ 1099511000000 → s.2.length + n.length ≤ 1099511000000 →
  ∃ v H', C f [.pv pid 0, .s n] H = some (v, H') ∧ v = .tp [] ∧ WS H' n0 pid (wrName s n) ∧ Wk pid H H'
section
variable {C : Tab}
theorem r_seen {n0 pid : Nat} {s : EncSt} {n : List UInt8} {H : AH} (h : WS H n0 pid s) (hl : s.2.length ≤ 1099511627776) : Runs C c_spec_l04Seen [.pv pid 0, .s n] H fun v H' => H' = H ∧ v = .i .i64 (match fnd s.2 n with | some p => (p : Int) | none => -1) := by
  unfold Runs c_spec_l04Seen
  obtain ⟨⟨bv, pl, h1, -, h3, -⟩, -⟩ := h
  obtain ⟨a1, a2⟩ := h1.ld (off := 1) (by simp)
  have a2' := fun (L : List Lv) (g : Nat) => (a2 L g).trans (show _ = pl from rfl)
  obtain ⟨l1, l2⟩ := Sx.len (E := eP) h3.sl
  simp -implicitDefEqProofs only [bU, reduceIte, Nat.reduceEqDiff, reduceCtorEq, implies_true, forall_const, eq_self, Nat.reduceAdd, Nat.reduceLT, bne_self_eq_false, bT, eq_self, true_implies, false_implies, forall_const, if_true, if_false, Int.reduceToNat, Nat.reduceSub, Int.reduceLE]
  refine exec_loop (fun m e M => ∃ (i : Nat) (L : List Lv) (g : Nat), i ≤ s.2.length ∧ m = s.2.length - i ∧ look e 0 = .pv pid 0 ∧ look e 1 = .s n ∧ look e 5 = .i .i64 i ∧ M = ⟨L, g, H⟩ ∧ fnd s.2 n = fnd (s.2.drop i) n) ?_ (n := s.2.length) ⟨0, _, _, by omega, by omega, rfl, rfl, rfl, rfl, rfl⟩
  rintro m e M ⟨i, L, g, hi, rfl, q0, q1, q5, rfl, hf⟩
  by_cases hlt : (i : Int) < s.2.length
  · have hil : i < s.2.length := by omega
    have w9 : IntKind.i64.wrap ((i : Int) + 1) = ((i + 1 : Nat) : Int) := by rw [w64 (by omega) (by omega)]; rfl
    obtain ⟨b1, b2, b3, b4, b5⟩ := Sx.fdn (z := 2) (E := eP) h3.sl rfl hil (off := 0) (by decide)
    obtain ⟨-, -, -, c4, c5⟩ := Sx.fdn (z := 2) (E := eP) h3.sl rfl hil (off := 1) (by decide)
    have b5' := fun (L : List Lv) (g : Nat) => (b5 L g).trans (show _ = AV.s s.2[i].1 from rfl)
    have c5' := fun (L : List Lv) (g : Nat) => (c5 L g).trans (show _ = AV.i .i64 (s.2[i].2 : Nat) from rfl)
    by_cases he : s.2[i].1 = n
    · rw [List.drop_eq_getElem_cons hil, fnd, if_pos he] at hf
      have he' := eq_true he
      simp -implicitDefEqProofs only [bU, reduceIte, Nat.reduceEqDiff, reduceCtorEq, implies_true, forall_const, eq_self, Nat.reduceAdd, Nat.reduceLT, bne_self_eq_false, bT, eq_self, true_implies, false_implies, forall_const, if_true, if_false, Int.reduceToNat, Nat.reduceSub, Int.reduceLE, nc_pv, pv_faC, pv_faV, Nat.zero_add, q0, q1, q5, a1, a2', l1, l2, hlt, toNat_nat, b1, b2, b3, b4, b5', c4, c5', he', hf, endK, rsC, rsV, resV]
    · rw [fnd_drop hil he] at hf
      simp -implicitDefEqProofs only [bU, reduceIte, Nat.reduceEqDiff, reduceCtorEq, implies_true, forall_const, eq_self, Nat.reduceAdd, Nat.reduceLT, bne_self_eq_false, bT, eq_self, true_implies, false_implies, forall_const, if_true, if_false, Int.reduceToNat, Nat.reduceSub, Int.reduceLE, nc_pv, pv_faC, pv_faV, Nat.zero_add, q0, q1, q5, a1, a2', l1, l2, hlt, toNat_nat, b1, b2, b3, b4, b5', he, w9]
      exact ⟨s.2.length - (i + 1), by omega, i + 1, _, _, by omega, rfl, rfl, rfl, hf⟩
  · have hie : i = s.2.length := by omega
    rw [hie, List.drop_length, fnd] at hf
    simp -implicitDefEqProofs only [bU, reduceIte, Nat.reduceEqDiff, reduceCtorEq, implies_true, forall_const, eq_self, Nat.reduceAdd, Nat.reduceLT, bne_self_eq_false, bT, eq_self, true_implies, false_implies, forall_const, if_true, if_false, Int.reduceToNat, Nat.reduceSub, Int.reduceLE, nc_pv, pv_faC, pv_faV, Nat.zero_add, q0, q1, q5, a1, a2', l1, l2, hlt, hf, endK, rsC, rsV, resV]
set_option maxHeartbeats 1000000 in
theorem r_wname {n0 pid : Nat} {s : EncSt} {n : List UInt8} {H : AH} (hS : T_seen C n_spec_l04Seen) (hP : T_put2 C n_spec_l02Put) (hT : T_wtext C n_spec_l04Text) (h : WS H n0 pid s) (hnear : nearS s) (hn : (labGo n).isSome = true) (hl1 : s.1.length + n.length ≤ 1099511000000) (hl2 : s.2.length + n.length ≤ 1099511000000) :
    Runs C c_spec_l04Name [.pv pid 0, .s n] H fun v H' => v = .tp [] ∧ WS H' n0 pid (wrName s n) ∧ Wk pid H H' := by
  unfold Runs c_spec_l04Name
  simp -implicitDefEqProofs only [bU, reduceIte, Nat.reduceEqDiff, reduceCtorEq, implies_true, forall_const, eq_self, Nat.reduceAdd, Nat.reduceLT, bne_self_eq_false, bT, eq_self, true_implies, false_implies, forall_const, if_true, if_false, Int.reduceToNat, Nat.reduceSub, Int.reduceLE]
  refine exec_loop (fun m e M => ∃ (n' : List UInt8) (s' : EncSt) (H' : AH) (L : List Lv) (g : Nat), n'.length ≤ n.length ∧ m = n'.length ∧ look e 0 = .pv pid 0 ∧ look e 1 = .s n' ∧ M = ⟨L, g, H'⟩ ∧ WS H' n0 pid s' ∧ Wk pid H H' ∧ nearS s' ∧ (labGo n').isSome = true ∧ s'.1.length + n'.length ≤ 1099511000000 ∧ s'.2.length + n'.length ≤ 1099511000000 ∧ wrName s n = wrName s' n') ?_ (n := n.length)
    ⟨n, s, H, _, _, by omega, rfl, rfl, rfl, rfl, h, .refl _ _, hnear, hn, hl1, hl2, rfl⟩
  clear h hnear hn hl1 hl2
  rintro m e M ⟨n', s', H', L, g, hi, rfl, q0, q1, rfl, h, hb, hnear, hn, hl1, hl2, hw⟩
  rw [hw]
  by_cases hroot : n' = [0]
  · subst hroot
    have hw0 : wrName s' [0] = wrTxt s' [0] := by rw [wrName, if_pos rfl]; rfl
    rw [hw0]
    obtain ⟨v, H2, k1, rfl, k2, k3⟩ := hT n0 pid s' [0] H' h (by simp; omega)
    have hr : (([0] : List UInt8) = [0]) = True := eq_self _
    simp -implicitDefEqProofs only [bU, reduceIte, Nat.reduceEqDiff, reduceCtorEq, implies_true, forall_const, eq_self, Nat.reduceAdd, Nat.reduceLT, bne_self_eq_false, bT, eq_self, true_implies, false_implies, forall_const, if_true, if_false, Int.reduceToNat, Nat.reduceSub, Int.reduceLE, q0, q1, hr, k1, endK, rsC, rsV, resV]
    exact ⟨k2, hb.trans k3⟩
  · match n', hn, hroot, q1, hi, hl1, hl2, hw with
    | [], hn, _, _, _, _, _, _ => rw [labGo] at hn; cases hn
    | c :: r, hn, hroot, q1, hi, hl1, hl2, hw =>
      have hroot' : ¬ (c :: r = [0]) := hroot
      rcases lab_cons hn with ⟨rfl, rfl⟩ | ⟨hc0, hcr, hn2⟩
      · exact absurd rfl hroot
      simp only [List.length_cons] at hi hl1 hl2
      have hseen := hS n0 pid s' (c :: r) H' h (by omega)
      cases hf : fnd s'.2 (c :: r) with
      | some p =>
        obtain ⟨x, hx, hxp⟩ := fnd_mem hf
        have hp : p ≤ 16383 := by rw [← hxp]; exact hnear x hx
        have hwr : wrName s' (c :: r) = wrTxt s' (be16 (49152 + p)) := by rw [wrName, if_neg hc0, hf]; rfl
        rw [hwr]
        rw [hf] at hseen
        have p0 : (0 : Int) ≤ p := by omega
        have w1 : IntKind.i64.wrap (49152 + (p : Int)) = ((49152 + p : Nat) : Int) := by rw [w64 (by omega) (by omega)]; rfl
        obtain ⟨H2, k1, e1⟩ := hP (49152 + p) H' (by omega)
        have k1' : C n_spec_l02Put [.i .i64 ((49152 + p : Nat) : Int), .i .i64 2] H' = some (.s (be16 (49152 + p)), H2) := k1
        obtain ⟨v, H3, k2, rfl, k3, k4⟩ := hT n0 pid s' (be16 (49152 + p)) H2 (h.ext e1) (by simp [be16]; omega)
        simp -implicitDefEqProofs only [bU, reduceIte, Nat.reduceEqDiff, reduceCtorEq, implies_true, forall_const, eq_self, Nat.reduceAdd, Nat.reduceLT, bne_self_eq_false, bT, eq_self, true_implies, false_implies, forall_const, if_true, if_false, Int.reduceToNat, Nat.reduceSub, Int.reduceLE, q0, q1, hroot', hseen, p0, w1, k1', k2, endK, rsC, rsV, resV]
        exact ⟨k3, (hb.trans (.of_ext e1 h.lt.1)).trans k4⟩
      | none =>
        have hwr : wrName s' (c :: r) = wrName (s'.1 ++ c :: r.take c.toNat, if s'.1.length ≤ 16383 then s'.2 ++ [(c :: r, s'.1.length)] else s'.2) (r.drop c.toNat) := by rw [wrName, if_neg hc0, hf]
        rw [hwr]
        rw [hf] at hseen
        have hneg : ¬ (0 : Int) ≤ -1 := by decide
        have hcb := c.toNat_lt
        have hc1 : c.toNat ≠ 0 := fun e => hc0 (UInt8.toNat_inj.1 e)
        have w0 := i64b c
        have w1 : IntKind.i64.wrap ((c.toNat : Int) + 1) = ((c.toNat + 1 : Nat) : Int) := by rw [w64 (by omega) (by omega)]; rfl
        have z1 : (0 : Int) ≤ ((c.toNat + 1 : Nat) : Int) := by omega
        have z2 : ((c.toNat + 1 : Nat) : Int) ≤ ((r.length + 1 : Nat) : Int) := by omega
        have z3 : (0 : Int) < ((r.length + 1 : Nat) : Int) := by omega
        have e2 : List.take (r.length + 1 - (c.toNat + 1)) (List.drop c.toNat r) = r.drop c.toNat := List.take_of_length_le (by simp <;> omega)
        by_cases hs : s'.1.length ≤ 16383
        · have hs' : ((s'.1.length : Nat) : Int) ≤ 16383 := by omega
          simp only [if_pos hs]
          obtain ⟨bv, pl, h1, h2, hap⟩ := h.apP (y := .ll 36 g 2 1) (x := (c :: r, s'.1.length)) (by omega)
          obtain ⟨a1, a2⟩ := h1.ld (off := 0) (by simp)
          have a2' := fun (L : List Lv) (g : Nat) => (a2 L g).trans (show _ = bv from rfl)
          obtain ⟨c1, c2⟩ := h1.ld (off := 1) (by simp)
          have c2' := fun (L : List Lv) (g : Nat) => (c2 L g).trans (show _ = pl from rfl)
          obtain ⟨l1, l2⟩ := Byt.len h2.sl
          obtain ⟨p1, pl', H1, p2, p3, p4, p5, p6, H2, p7, p8, p9⟩ := hap (⟨36, g, 0, [.ag [.s (c :: r), .i .i64 (s'.1.length : Nat)]]⟩ :: dropL (keepL [0, 1] L) 36) (g + 1) (by simp [srcV, srcC, Mem.getL, Mem.hasL, lookL, eP, Enc.v])
          obtain ⟨v, H3, k2, rfl, k3, k4⟩ := hT n0 pid _ (c :: r.take c.toNat) H2 p8 (by simp; omega)
          simp -implicitDefEqProofs only [bU, reduceIte, Nat.reduceEqDiff, reduceCtorEq, implies_true, forall_const, eq_self, Nat.reduceAdd, Nat.reduceLT, bne_self_eq_false, bT, eq_self, true_implies, false_implies, forall_const, if_true, if_false, Int.reduceToNat, Nat.reduceSub, Int.reduceLE, bV, Nat.reduceAdd, Nat.reduceLT, Nat.reduceLeDiff, Nat.reduceLeDiff, nc_pv, pv_faC, pv_faV, q0, q1, hroot', hseen, hneg, a1, a2', c1, c2', l1, l2, hs', fillEC, fillE, List.replicate, List.set]
          simp -implicitDefEqProofs only [bU, reduceIte, Nat.reduceEqDiff, reduceCtorEq, implies_true, forall_const, eq_self, Nat.reduceAdd, Nat.reduceLT, bne_self_eq_false, bT, eq_self, true_implies, false_implies, forall_const, if_true, if_false, Int.reduceToNat, Nat.reduceSub, Int.reduceLE, bV, Nat.reduceAdd, Nat.reduceLT, Nat.reduceLeDiff, Nat.reduceLeDiff, nc_pv, pv_faC, pv_faV, p1, p2, p3, p4, p5, p6, p7, w0, w1, z1, z2, z3, e2, toNat_nat, Int.reduceToNat, Int.le_refl, k2]
          refine ⟨(r.drop c.toNat).length, by simp; omega, r.drop c.toNat, _, H3, _, _, by simp; omega, rfl, rfl, rfl, k3, (hb.trans p9).trans k4, ?_, hn2, ?_, ?_, rfl⟩
          · intro e he
            simp only [wrTxt, List.mem_append, List.mem_singleton] at he
            rcases he with he | rfl
            · exact hnear e he
            · exact hs
          · simp [wrTxt]; omega
          · simp [wrTxt]; omega
        · have hs' : ¬ ((s'.1.length : Nat) : Int) ≤ 16383 := by omega
          simp only [if_neg hs]
          obtain ⟨⟨bv, pl, h1, h2, -⟩, -⟩ := id h
          obtain ⟨a1, a2⟩ := h1.ld (off := 0) (by simp)
          have a2' := fun (L : List Lv) (g : Nat) => (a2 L g).trans (show _ = bv from rfl)
          obtain ⟨l1, l2⟩ := Byt.len h2.sl
          obtain ⟨v, H3, k2, rfl, k3, k4⟩ := hT n0 pid _ (c :: r.take c.toNat) H' h (by simp; omega)
          simp -implicitDefEqProofs only [bU, reduceIte, Nat.reduceEqDiff, reduceCtorEq, implies_true, forall_const, eq_self, Nat.reduceAdd, Nat.reduceLT, bne_self_eq_false, bT, eq_self, true_implies, false_implies, forall_const, if_true, if_false, Int.reduceToNat, Nat.reduceSub, Int.reduceLE, bV, Nat.reduceAdd, Nat.reduceLT, Nat.reduceLeDiff, Nat.reduceLeDiff, nc_pv, pv_faC, pv_faV, q0, q1, hroot', hseen, hneg, a1, a2', l1, l2, hs', w0, w1, z1, z2, z3, e2, toNat_nat, Int.reduceToNat, Int.le_refl, k2]
          exact ⟨(r.drop c.toNat).length, by simp; omega, r.drop c.toNat, _, H3, _, _, by simp; omega, rfl, rfl, rfl, k3, hb.trans k4, hnear, hn2, by simp [wrTxt]; omega, by simp [wrTxt]; omega, rfl⟩
end
end Go.Vm

/- The specification's writer of messages: heads, questions; what is written, plainly. -/
namespace Go.Vm
set_option linter.unusedVariables false
set_option linter.unusedSimpArgs false
/-! Plainly. -/
structure wfS (s : EncSt) : Prop where
  near : nearS s
  few : s.2.length ≤ s.1.length
theorem wrName_wf : ∀ (k : Nat) (n : List UInt8) (s : EncSt), n.length ≤ k → (labGo n).isSome = true → wfS s → wfS (wrName s n) ∧ s.1.length ≤ (wrName s n).1.length ∧ (wrName s n).1.length ≤ s.1.length + n.length
  | k, [], s, _, hl, _ => by rw [labGo] at hl; cases hl
  | 0, _ :: _, _, hk, _, _ => by simp at hk
  | k + 1, c :: r, s, hk, hl, h => by
    rw [wrName]
    rcases lab_cons hl with ⟨rfl, rfl⟩ | ⟨hc0, hcr, hn2⟩
    · rw [if_pos rfl]; exact ⟨⟨h.near, by have := h.few; simp; omega⟩, by simp, by simp⟩
    · rw [if_neg hc0]
      have h1 : c.toNat ≠ 0 := fun e => hc0 (UInt8.toNat_inj.1 e)
      cases hf : fnd s.2 (c :: r) with
      | some p => exact ⟨⟨h.near, by have := h.few; simp; omega⟩, by simp, by simp [be16]; omega⟩
      | none =>
        simp only [List.length_cons] at hk ⊢
        have hn : wfS (s.1 ++ c :: r.take c.toNat, if s.1.length ≤ 16383 then s.2 ++ [(c :: r, s.1.length)] else s.2) := by
          refine ⟨fun e he => ?_, ?_⟩
          · simp only at he
            by_cases hs : s.1.length ≤ 16383
            · rw [if_pos hs, List.mem_append, List.mem_singleton] at he
              rcases he with he | rfl
              · exact h.near e he
              · exact hs
            · rw [if_neg hs] at he; exact h.near e he
          · have := h.few
            split <;> simp <;> omega
        obtain ⟨a, b, d⟩ := wrName_wf k (r.drop c.toNat) _ (by simp; omega) hn2 hn
        simp only [List.length_append, List.length_cons, List.length_take, List.length_drop] at b d
        exact ⟨a, by omega, by omega⟩
theorem wrTxt_wf {s : EncSt} (t : List UInt8) (h : wfS s) : wfS (wrTxt s t) := ⟨h.near, by have := h.few; simp [wrTxt]; omega⟩
def bN (b : Bool) (k : Nat) : Nat := if b then 2 ^ k else 0
theorem bN_le (b : Bool) (k : Nat) : bN b k ≤ 2 ^ k := by cases b <;> simp [bN]
def flg (h : Hd) : Nat := bN h.qr 15 + h.op.toNat * 2048 + bN h.aa 10 + bN h.tc 9 + bN h.rd 8 + bN h.ra 7 + bN h.z 6 + bN h.ad 5 + bN h.cd 4 + h.code.toNat
def hdB (h : Hd) (a b c d : Nat) : List UInt8 := be16 h.id.toNat ++ be16 (flg h) ++ be16 a ++ be16 b ++ be16 c ++ be16 d
def wrQ (s : EncSt) (q : Qn) : EncSt := wrTxt (wrName s q.n) (be16 q.t.toNat ++ be16 q.c.toNat)
def wrParts (s : EncSt) : List (UInt8 × List UInt8) → EncSt
  | [] => s
  | (f, p) :: r => wrParts (if f = 110 then wrName s p else wrTxt s p) r
def recH (r : Rr) : List UInt8 := be16 r.t.toNat ++ be16 r.c.toNat ++ be32 r.ttl.toNat ++ [0, 0]
/-- A record, its data's length not laid yet. -/
def wrRec0 (s : EncSt) (r : Rr) : EncSt := if r.d = [] ∨ hasP r.t = false then wrTxt (wrTxt (wrName s r.o) (recH r)) r.d else wrParts (wrTxt (wrName s r.o) (recH r)) ((prs (specForm r.t) r.d).getD [])
def patch (b : List UInt8) (p n : Nat) : List UInt8 := (b.set (p - 2) (UInt8.ofNat (n / 256))).set (p - 1) (UInt8.ofNat n)
def wrRec (s : EncSt) (r : Rr) : EncSt := (patch (wrRec0 s r).1 (wrTxt (wrName s r.o) (recH r)).1.length ((wrRec0 s r).1.length - (wrTxt (wrName s r.o) (recH r)).1.length), (wrRec0 s r).2)
def wrQs (s : EncSt) (l : List Qn) : EncSt := l.foldl wrQ s
def wrRs (s : EncSt) (l : List Rr) : EncSt := l.foldl wrRec s
def wrM (m : Msg) : EncSt := wrRs (wrRs (wrRs (wrQs (hdB m.h m.q.length m.an.length m.au.length m.ex.length, []) m.q) m.an) m.au) m.ex
def T_pointed (C : Tab) (f : Nat) : Prop := ∀ (t : Int) (H : AH), C f [.i .i64 t] H = some (.b (hasP t), H)
def T_sflag (C : Tab) (f : Nat) : Prop := ∀ (b : Bool) (k : Nat) (H : AH), k ≤ 62 → C f [.b b, .i .i64 k] H = some (.i .i64 (bN b k : Nat), H)
def T_shead (C : Tab) (f : Nat) : Prop := ∀ (h : Hd) (a b c d : Nat) (H : AH), hdOk h = true → a ≤ 65535 → b ≤ 65535 → c ≤ 65535 → d ≤ 65535 → ∃ v H', C f [eH.v h, .ag [.i .i64 (a : Nat), .i .i64 (b : Nat), .i .i64 (c : Nat), .i .i64 (d : Nat)]] H = some (v, H') ∧ v = .s (hdB h a b c d) ∧ Ext H H'
def T_put4 (C : Tab) (f : Nat) : Prop := ∀ (n : Nat) (H : AH), n ≤ 4294967295 → ∃ H', C f [.i .i64 n, .i .i64 4] H = some (.s (be32 n), H') ∧ Ext H H'
def T_squestion (C : Tab) (f : Nat) : Prop := ∀ (n0 pid : Nat) (s : EncSt) (q : Qn) (H : AH), WS H n0 pid s → wfS s → qOk q = true → s.1.length + q.n.length ≤ 1099510000000 → ∃ v H', C f [.pv pid 0, eQ.v q] H = some (v, H') ∧ v = .tp [] ∧ WS H' n0 pid (wrQ s q) ∧ Wk pid H H'
theorem hdOk_iff {h : Hd} (hh : hdOk h = true) : (0 ≤ h.id ∧ h.id ≤ 65535) ∧ (0 ≤ h.op ∧ h.op ≤ 15) ∧ (0 ≤ h.code ∧ h.code ≤ 15) := by
  simp only [hdOk, Bool.and_eq_true, decide_eq_true_eq] at hh
  exact ⟨hh.1.1, hh.1.2, hh.2⟩
theorem qOk_iff {q : Qn} (hh : qOk q = true) : (nameL q.n).isSome = true ∧ (0 ≤ q.t ∧ q.t ≤ 65535) ∧ (0 ≤ q.c ∧ q.c ≤ 65535) := by
  simp only [qOk, Bool.and_eq_true, decide_eq_true_eq] at hh
  exact ⟨hh.1.1, hh.1.2, hh.2⟩
theorem nameL_lab {n : List UInt8} (h : (nameL n).isSome = true) : n.length ≤ 255 ∧ (labGo n).isSome = true := by
  unfold nameL at h
  by_cases hl : 255 < n.length
  · rw [if_pos hl] at h; cases h
  · rw [if_neg hl] at h; exact ⟨by omega, h⟩
section
variable {C : Tab}
theorem r_pointed {t : Int} {H : AH} : Runs C c_spec_l04Pointed [.i .i64 t] H fun v H' => H' = H ∧ v = .b (hasP t) := by
  unfold Runs c_spec_l04Pointed
  by_cases h2 : t = 2
  · subst h2; simp -implicitDefEqProofs only [bU, reduceIte, Nat.reduceEqDiff, reduceCtorEq, implies_true, forall_const, eq_self, Nat.reduceAdd, Nat.reduceLT, bne_self_eq_false, bT, eq_self, true_implies, false_implies, forall_const, if_true, if_false, Int.reduceToNat, Nat.reduceSub, Int.reduceLE, Int.reduceEq, endK, rsC, rsV, resV]; rfl
  by_cases h5 : t = 5
  · subst h5; simp -implicitDefEqProofs only [bU, reduceIte, Nat.reduceEqDiff, reduceCtorEq, implies_true, forall_const, eq_self, Nat.reduceAdd, Nat.reduceLT, bne_self_eq_false, bT, eq_self, true_implies, false_implies, forall_const, if_true, if_false, Int.reduceToNat, Nat.reduceSub, Int.reduceLE, Int.reduceEq, endK, rsC, rsV, resV]; rfl
  by_cases h6 : t = 6
  · subst h6; simp -implicitDefEqProofs only [bU, reduceIte, Nat.reduceEqDiff, reduceCtorEq, implies_true, forall_const, eq_self, Nat.reduceAdd, Nat.reduceLT, bne_self_eq_false, bT, eq_self, true_implies, false_implies, forall_const, if_true, if_false, Int.reduceToNat, Nat.reduceSub, Int.reduceLE, Int.reduceEq, endK, rsC, rsV, resV]; rfl
  by_cases h12 : t = 12
  · subst h12; simp -implicitDefEqProofs only [bU, reduceIte, Nat.reduceEqDiff, reduceCtorEq, implies_true, forall_const, eq_self, Nat.reduceAdd, Nat.reduceLT, bne_self_eq_false, bT, eq_self, true_implies, false_implies, forall_const, if_true, if_false, Int.reduceToNat, Nat.reduceSub, Int.reduceLE, Int.reduceEq, endK, rsC, rsV, resV]; rfl
  by_cases h15 : t = 15
  · subst h15; simp -implicitDefEqProofs only [bU, reduceIte, Nat.reduceEqDiff, reduceCtorEq, implies_true, forall_const, eq_self, Nat.reduceAdd, Nat.reduceLT, bne_self_eq_false, bT, eq_self, true_implies, false_implies, forall_const, if_true, if_false, Int.reduceToNat, Nat.reduceSub, Int.reduceLE, Int.reduceEq, endK, rsC, rsV, resV]; rfl
  have e : hasP t = false := by simp [hasP, h2, h5, h6, h12, h15]
  rw [e]
  simp -implicitDefEqProofs only [bU, reduceIte, Nat.reduceEqDiff, reduceCtorEq, implies_true, forall_const, eq_self, Nat.reduceAdd, Nat.reduceLT, bne_self_eq_false, bT, eq_self, true_implies, false_implies, forall_const, if_true, if_false, Int.reduceToNat, Nat.reduceSub, Int.reduceLE, h2, h5, h6, h12, h15, endK, rsC, rsV, resV]
theorem r_sflag {b : Bool} {k : Nat} {H : AH} (hk : k ≤ 62) : Runs C c_spec_l04Flag [.b b, .i .i64 k] H fun v H' => H' = H ∧ v = .i .i64 (bN b k : Nat) := by
  unfold Runs c_spec_l04Flag
  have hw : IntKind.u64.wrap (k : Int) = k := by rw [IntKind.wrap_u64]; omega
  have h0 : (0 : Int) ≤ k := by omega
  have hm : min k IntKind.i64.bits = k := by
    have : IntKind.i64.bits = 64 := rfl
    omega
  have hp : (2 : Nat) ^ k ≤ 2 ^ 62 := Nat.pow_le_pow_right (by decide) hk
  have hp0 : 0 < (2 : Nat) ^ k := Nat.pow_pos (by decide)
  have hv : IntKind.i64.wrap (1 * (2 : Int) ^ k) = ((2 ^ k : Nat) : Int) := by
    rw [Int.one_mul, show (2 : Int) ^ k = ((2 ^ k : Nat) : Int) by norm_cast, w64 (by omega) (by omega)]
  cases b
  · simp -implicitDefEqProofs only [bU, reduceIte, Nat.reduceEqDiff, reduceCtorEq, implies_true, forall_const, eq_self, Nat.reduceAdd, Nat.reduceLT, bne_self_eq_false, bT, eq_self, true_implies, false_implies, forall_const, if_true, if_false, Int.reduceToNat, Nat.reduceSub, Int.reduceLE, bN, Bool.false_eq_true, if_false, endK, rsC, rsV, resV]; rfl
  · simp -implicitDefEqProofs only [bU, reduceIte, Nat.reduceEqDiff, reduceCtorEq, implies_true, forall_const, eq_self, Nat.reduceAdd, Nat.reduceLT, bne_self_eq_false, bT, eq_self, true_implies, false_implies, forall_const, if_true, if_false, Int.reduceToNat, Nat.reduceSub, Int.reduceLE, bN, h0, hw, hm, hv, toNat_nat, if_true, endK, rsC, rsV, resV]
set_option maxHeartbeats 1000000 in
theorem r_shead {h : Hd} {a b c d : Nat} {H : AH} (hF : T_sflag C n_spec_l04Flag) (hP : T_put2 C n_spec_l02Put) (hh : hdOk h = true) (ha : a ≤ 65535) (hb : b ≤ 65535) (hc : c ≤ 65535) (hd : d ≤ 65535) :
    Runs C c_spec_l04Head [eH.v h, .ag [.i .i64 (a : Nat), .i .i64 (b : Nat), .i .i64 (c : Nat), .i .i64 (d : Nat)]] H fun v H' => v = .s (hdB h a b c d) ∧ Ext H H' := by
  unfold Runs c_spec_l04Head
  obtain ⟨g1, g2, g3⟩ := hdOk_iff hh
  have f15 := hF h.qr 15 H (by omega)
  have f10 := hF h.aa 10 H (by omega)
  have f9 := hF h.tc 9 H (by omega)
  have f8 := hF h.rd 8 H (by omega)
  have f7 := hF h.ra 7 H (by omega)
  have f6 := hF h.z 6 H (by omega)
  have f5 := hF h.ad 5 H (by omega)
  have f4 := hF h.cd 4 H (by omega)
  have b15 := bN_le h.qr 15
  have b10 := bN_le h.aa 10
  have b9 := bN_le h.tc 9
  have b8 := bN_le h.rd 8
  have b7 := bN_le h.ra 7
  have b6 := bN_le h.z 6
  have b5 := bN_le h.ad 5
  have b4 := bN_le h.cd 4
  obtain ⟨hid, hqr, hop, haa, htc, hrd, hra, hz, had, hcd, hcode⟩ := h
  simp only at *
  obtain ⟨op, rfl⟩ := Int.eq_ofNat_of_zero_le g2.1
  obtain ⟨code, rfl⟩ := Int.eq_ofNat_of_zero_le g3.1
  obtain ⟨id, rfl⟩ := Int.eq_ofNat_of_zero_le g1.1
  generalize h15 : bN hqr 15 = n15 at *
  generalize h10 : bN haa 10 = n10 at *
  generalize h9 : bN htc 9 = n9 at *
  generalize h8 : bN hrd 8 = n8 at *
  generalize h7 : bN hra 7 = n7 at *
  generalize h6 : bN hz 6 = n6 at *
  generalize h5 : bN had 5 = n5 at *
  generalize h4 : bN hcd 4 = n4 at *
  simp only [show ((15 : Nat) : Int) = 15 from rfl, show ((10 : Nat) : Int) = 10 from rfl, show ((9 : Nat) : Int) = 9 from rfl, show ((8 : Nat) : Int) = 8 from rfl, show ((7 : Nat) : Int) = 7 from rfl, show ((6 : Nat) : Int) = 6 from rfl, show ((5 : Nat) : Int) = 5 from rfl, show ((4 : Nat) : Int) = 4 from rfl] at f15 f10 f9 f8 f7 f6 f5 f4
  have hm : min 11 IntKind.i64.bits = 11 := rfl
  have e11 : (2 : Int) ^ 11 = 2048 := by decide
  have s0 : IntKind.i64.wrap ((op : Int) * 2048) = ((op * 2048 : Nat) : Int) := by rw [w64 (by omega) (by omega)]; rfl
  have s1 : IntKind.i64.wrap ((n15 : Int) + ((op * 2048 : Nat) : Int)) = ((n15 + op * 2048 : Nat) : Int) := by rw [w64 (by omega) (by omega)]; rfl
  have s2 : IntKind.i64.wrap (((n15 + op * 2048 : Nat) : Int) + (n10 : Int)) = ((n15 + op * 2048 + n10 : Nat) : Int) := by rw [w64 (by omega) (by omega)]; rfl
  have s3 : IntKind.i64.wrap (((n15 + op * 2048 + n10 : Nat) : Int) + (n9 : Int)) = ((n15 + op * 2048 + n10 + n9 : Nat) : Int) := by rw [w64 (by omega) (by omega)]; rfl
  have s4 : IntKind.i64.wrap (((n15 + op * 2048 + n10 + n9 : Nat) : Int) + (n8 : Int)) = ((n15 + op * 2048 + n10 + n9 + n8 : Nat) : Int) := by rw [w64 (by omega) (by omega)]; rfl
  have s5 : IntKind.i64.wrap (((n15 + op * 2048 + n10 + n9 + n8 : Nat) : Int) + (n7 : Int)) = ((n15 + op * 2048 + n10 + n9 + n8 + n7 : Nat) : Int) := by rw [w64 (by omega) (by omega)]; rfl
  have s6 : IntKind.i64.wrap (((n15 + op * 2048 + n10 + n9 + n8 + n7 : Nat) : Int) + (n6 : Int)) = ((n15 + op * 2048 + n10 + n9 + n8 + n7 + n6 : Nat) : Int) := by rw [w64 (by omega) (by omega)]; rfl
  have s7 : IntKind.i64.wrap (((n15 + op * 2048 + n10 + n9 + n8 + n7 + n6 : Nat) : Int) + (n5 : Int)) = ((n15 + op * 2048 + n10 + n9 + n8 + n7 + n6 + n5 : Nat) : Int) := by rw [w64 (by omega) (by omega)]; rfl
  have s8 : IntKind.i64.wrap (((n15 + op * 2048 + n10 + n9 + n8 + n7 + n6 + n5 : Nat) : Int) + (n4 : Int)) = ((n15 + op * 2048 + n10 + n9 + n8 + n7 + n6 + n5 + n4 : Nat) : Int) := by rw [w64 (by omega) (by omega)]; rfl
  have s9 : IntKind.i64.wrap (((n15 + op * 2048 + n10 + n9 + n8 + n7 + n6 + n5 + n4 : Nat) : Int) + (code : Int)) = ((n15 + op * 2048 + n10 + n9 + n8 + n7 + n6 + n5 + n4 + code : Nat) : Int) := by rw [w64 (by omega) (by omega)]; rfl
  obtain ⟨fl, hfl⟩ : ∃ fl, n15 + op * 2048 + n10 + n9 + n8 + n7 + n6 + n5 + n4 + code = fl := ⟨_, rfl⟩
  have hflb : fl ≤ 65535 := by omega
  obtain ⟨H1, k1, e1⟩ := hP id H (by omega)
  obtain ⟨H2, k2, e2⟩ := hP fl H1 hflb
  obtain ⟨H3, k3, e3⟩ := hP a H2 ha
  obtain ⟨H4, k4, e4⟩ := hP b H3 hb
  obtain ⟨H5, k5, e5⟩ := hP c H4 hc
  obtain ⟨H6, k6, e6⟩ := hP d H5 hd
  have hlen : ∀ n, (be16 n).length = 2 := fun n => rfl
  have cap1 : (be16 id).length + (be16 fl).length ≤ 9223372036854775807 := by simp [hlen]
  have hdb : hdB ⟨(id : Nat), hqr, (op : Nat), haa, htc, hrd, hra, hz, had, hcd, (code : Nat)⟩ a b c d = be16 id ++ be16 fl ++ be16 a ++ be16 b ++ be16 c ++ be16 d := by
    simp only [hdB, flg, Int.toNat_natCast, h15, h10, h9, h8, h7, h6, h5, h4, hfl]
  rw [hdb]
  simp only [Enc.v, eH, Int.ofNat_eq_natCast]
  simp -implicitDefEqProofs only [bU, reduceIte, Nat.reduceEqDiff, reduceCtorEq, implies_true, forall_const, eq_self, Nat.reduceAdd, Nat.reduceLT, bne_self_eq_false, bT, eq_self, true_implies, false_implies, forall_const, if_true, if_false, Int.reduceToNat, Nat.reduceSub, Int.reduceLE, bV, Nat.reduceAdd, Nat.reduceLT, Nat.reduceLeDiff, Nat.reduceLeDiff, lgAt, isRd, f15, f10, f9, f8, f7, f6, f5, f4, hm, e11, s0, s1, s2, s3, s4, s5, s6, s7, s8, s9, hfl, k1, k2, cap1, toNat_nat, Int.reduceToNat]
  have capn : ∀ l : List UInt8, l.length ≤ 100 → ∀ n, l.length + (be16 n).length ≤ 9223372036854775807 := fun l hl n => by simp [hlen]; omega
  refine exec_loop (fun n e M => ∃ (i : Nat) (acc : List UInt8) (H' : AH) (L : List Lv) (g : Nat), n = 4 - i ∧ look e 3 = .la 3 1 0 0 ∧ look e 6 = .s acc ∧ look e 7 = .i .i64 i ∧ M = ⟨L, g, H'⟩ ∧ keepL [3, 6, 7] L = [⟨3, 1, 0, [.ag [.i .i64 (a : Nat), .i .i64 (b : Nat), .i .i64 (c : Nat), .i .i64 (d : Nat)]]⟩] ∧
      ((i = 0 ∧ acc = be16 id ++ be16 fl ∧ H' = H2) ∨ (i = 1 ∧ acc = be16 id ++ be16 fl ++ be16 a ∧ H' = H3) ∨ (i = 2 ∧ acc = be16 id ++ be16 fl ++ be16 a ++ be16 b ∧ H' = H4) ∨ (i = 3 ∧ acc = be16 id ++ be16 fl ++ be16 a ++ be16 b ++ be16 c ∧ H' = H5) ∨ (i = 4 ∧ acc = be16 id ++ be16 fl ++ be16 a ++ be16 b ++ be16 c ++ be16 d ∧ H' = H6))) ?_ (n := 4)
    ⟨0, _, H2, _, _, rfl, rfl, rfl, rfl, rfl, rfl, .inl ⟨rfl, rfl, rfl⟩⟩
  rintro n e M ⟨i, acc, H', L, g, rfl, q3, q6, q7, rfl, hL, hc⟩
  have cg := capn acc (by rcases hc with ⟨-, rfl, -⟩ | ⟨-, rfl, -⟩ | ⟨-, rfl, -⟩ | ⟨-, rfl, -⟩ | ⟨-, rfl, -⟩ <;> simp [hlen])
  have i0 : (0 : Int) ≤ i := by omega
  have w9 : IntKind.i64.wrap ((i : Int) + 1) = ((i + 1 : Nat) : Int) := by rw [w64 (by omega) (by omega)]; rfl
  by_cases hlt : (i : Int) < 4
  · have hi4 : i < 4 := by omega
    have hget : ∃ x H2', [AV.i .i64 (a : Nat), .i .i64 (b : Nat), .i .i64 (c : Nat), .i .i64 (d : Nat)].getD i .u = .i .i64 ((x : Nat) : Int) ∧ C n_spec_l02Put [.i .i64 ((x : Nat) : Int), .i .i64 2] H' = some (.s (be16 x), H2') ∧
        ((i + 1 = 0 ∧ acc ++ be16 x = be16 id ++ be16 fl ∧ H2' = H2) ∨ (i + 1 = 1 ∧ acc ++ be16 x = be16 id ++ be16 fl ++ be16 a ∧ H2' = H3) ∨ (i + 1 = 2 ∧ acc ++ be16 x = be16 id ++ be16 fl ++ be16 a ++ be16 b ∧ H2' = H4) ∨ (i + 1 = 3 ∧ acc ++ be16 x = be16 id ++ be16 fl ++ be16 a ++ be16 b ++ be16 c ∧ H2' = H5) ∨ (i + 1 = 4 ∧ acc ++ be16 x = be16 id ++ be16 fl ++ be16 a ++ be16 b ++ be16 c ++ be16 d ∧ H2' = H6)) := by
      rcases hc with ⟨rfl, rfl, rfl⟩ | ⟨rfl, rfl, rfl⟩ | ⟨rfl, rfl, rfl⟩ | ⟨rfl, rfl, rfl⟩ | ⟨rfl, rfl, rfl⟩
      · exact ⟨a, H3, rfl, k3, .inr (.inl ⟨rfl, rfl, rfl⟩)⟩
      · exact ⟨b, H4, rfl, k4, .inr (.inr (.inl ⟨rfl, rfl, rfl⟩))⟩
      · exact ⟨c, H5, rfl, k5, .inr (.inr (.inr (.inl ⟨rfl, rfl, rfl⟩)))⟩
      · exact ⟨d, H6, rfl, k6, .inr (.inr (.inr (.inr ⟨rfl, rfl, rfl⟩)))⟩
      · omega
    obtain ⟨x, H2', g1', g2', g3'⟩ := hget
    have hlt' : (i : Int) < ((4 : Nat) : Int) := hlt
    have cgx := cg x
    simp -implicitDefEqProofs only [bU, reduceIte, Nat.reduceEqDiff, reduceCtorEq, implies_true, forall_const, eq_self, Nat.reduceAdd, Nat.reduceLT, bne_self_eq_false, bT, eq_self, true_implies, false_implies, forall_const, if_true, if_false, Int.reduceToNat, Nat.reduceSub, Int.reduceLE, bV, Nat.reduceAdd, Nat.reduceLT, Nat.reduceLeDiff, Nat.reduceLeDiff, q3, q6, q7, hL, hlt, hlt', i0, toNat_nat, Nat.mul_one, hi4, g1', g2', cgx, w9]
    exact ⟨4 - (i + 1), by omega, i + 1, acc ++ be16 x, H2', _, _, rfl, rfl, rfl, rfl, rfl, g3'⟩
  · rcases hc with ⟨rfl, rfl, rfl⟩ | ⟨rfl, rfl, rfl⟩ | ⟨rfl, rfl, rfl⟩ | ⟨rfl, rfl, rfl⟩ | ⟨rfl, rfl, rfl⟩ <;> first | (exfalso; omega) | skip
    simp -implicitDefEqProofs only [bU, reduceIte, Nat.reduceEqDiff, reduceCtorEq, implies_true, forall_const, eq_self, Nat.reduceAdd, Nat.reduceLT, bne_self_eq_false, bT, eq_self, true_implies, false_implies, forall_const, if_true, if_false, Int.reduceToNat, Nat.reduceSub, Int.reduceLE, bV, Nat.reduceAdd, Nat.reduceLT, Nat.reduceLeDiff, Nat.reduceLeDiff, q3, q6, q7, hL, hlt, endK, rsC, rsV, resV]
    exact ((((e1.trans e2).trans e3).trans e4).trans e5).trans e6
theorem r_squestion {n0 pid : Nat} {s : EncSt} {q : Qn} {H : AH} (hN : T_wname C n_spec_l04Name) (hP : T_put2 C n_spec_l02Put) (hT : T_wtext C n_spec_l04Text) (h : WS H n0 pid s) (hs : wfS s) (hq : qOk q = true) (hl : s.1.length + q.n.length ≤ 1099510000000) :
    Runs C c_spec_l04Question [.pv pid 0, eQ.v q] H fun v H' => v = .tp [] ∧ WS H' n0 pid (wrQ s q) ∧ Wk pid H H' := by
  unfold Runs c_spec_l04Question
  obtain ⟨g1, g2, g3⟩ := qOk_iff hq
  obtain ⟨n1, n2⟩ := nameL_lab g1
  obtain ⟨v, H1, k1, rfl, s1, b1⟩ := hN n0 pid s q.n H h hs.near n2 (by omega) (by have := hs.few; omega)
  obtain ⟨H2, k2, e2⟩ := hP q.t.toNat H1 (by omega)
  obtain ⟨H3, k3, e3⟩ := hP q.c.toNat H2 (by omega)
  rw [Int.toNat_of_nonneg g2.1] at k2
  rw [Int.toNat_of_nonneg g3.1] at k3
  have hw := (wrName_wf _ q.n s (Nat.le_refl _) n2 hs).2.2
  obtain ⟨v4, H4, k4, rfl, s4, b4⟩ := hT n0 pid (wrName s q.n) (be16 q.t.toNat ++ be16 q.c.toNat) H3 (s1.ext (e2.trans e3)) (by simp [be16]; omega)
  have cap1 : (be16 q.t.toNat).length + (be16 q.c.toNat).length ≤ 9223372036854775807 := by simp [be16]
  simp only [Enc.v, eQ]
  simp -implicitDefEqProofs only [bU, reduceIte, Nat.reduceEqDiff, reduceCtorEq, implies_true, forall_const, eq_self, Nat.reduceAdd, Nat.reduceLT, bne_self_eq_false, bT, eq_self, true_implies, false_implies, forall_const, if_true, if_false, Int.reduceToNat, Nat.reduceSub, Int.reduceLE, bV, Nat.reduceAdd, Nat.reduceLT, Nat.reduceLeDiff, Nat.reduceLeDiff, lgAt, isRd, k1, k2, k3, k4, cap1, endK, rsC, rsV, resV]
  exact ⟨s4, (b1.trans (.of_ext (e2.trans e3) s1.lt.1)).trans b4⟩
end
end Go.Vm

/- The specification's writer of messages: a record. -/
namespace Go.Vm
set_option linter.unusedVariables false
set_option linter.unusedSimpArgs false
def T_wrec (C : Tab) (f : Nat) : Prop := ∀ (n0 pid : Nat) (s : EncSt) (r : Rr) (H : AH), WS H n0 pid s → wfS s → recOkB r = true → s.1.length + r.o.length + r.d.length ≤ 1099510000000 → ∃ v H', C f [.pv pid 0, eR.v r] H = some (v, H') ∧ v = .tp [] ∧ WS H' n0 pid (wrRec s r) ∧ Wk pid H H'
/-- A byte of what is written, changed. -/
theorem WS.stB {H : AH} {n0 pid j : Nat} {s : EncSt} (h : WS H n0 pid s) (hj : j < s.1.length) (b : UInt8) : ∃ bv, (∀ (L : List Lv) (g : Nat), ldC ⟨L, g, H⟩ none (.pv pid 0)) ∧ (∀ (L : List Lv) (g : Nat), ldX ⟨L, g, H⟩ none (.pv pid 0) = bv) ∧ lenV bv = .i .i64 s.1.length ∧ lenC bv ∧ slZ H 1 bv ∧ iaC (j : Int) bv ∧
    (∀ (L : List Lv) (g : Nat), stC ⟨L, g, H⟩ (.i .u8 b.toNat) (iaV j bv)) ∧ ∃ H', (∀ (L : List Lv) (g : Nat), stM ⟨L, g, H⟩ (.i .u8 b.toNat) (iaV j bv) = ⟨L, g, H'⟩) ∧ WS H' n0 pid (s.1.set j b, s.2) ∧ Wk pid H H' := by
  obtain ⟨⟨bv, pl, h1, h2, h3, h4, h5, h6, h7, h8⟩, hge⟩ := h
  obtain ⟨a1, a2⟩ := h1.ld (off := 0) (by simp)
  obtain ⟨l1, l2⟩ := Byt.len h2.sl
  have key : ∀ (L : List Lv) (g : Nat), slZ H 1 bv ∧ iaC (j : Int) bv ∧ stC ⟨L, g, H⟩ (.i .u8 b.toNat) (iaV j bv) ∧ ∃ H', stM ⟨L, g, H⟩ (.i .u8 b.toNat) (iaV j bv) = ⟨L, g, H'⟩ ∧ Mb H' bv (s.1.set j b) ∧ H'.n = H.n ∧ ∀ i, ¬ i ∈ idA bv → H'.at' i = H.at' i := fun L g => by
    have := h2.st (j := j) (by omega) (by omega) b L g
    rwa [Int.toNat_natCast] at this
  obtain ⟨k1, k2, -, H', k4, k5, k6, k7⟩ := key [] 0
  have hst : ∀ (L : List Lv) (g : Nat), stM ⟨L, g, H⟩ (.i .u8 b.toNat) (iaV j bv) = ⟨L, g, H'⟩ := fun L g => by
    have hm : Mn H 1 bv (encB s.1) := h2
    have hle := enc_len s.1
    generalize encB s.1 = E at hm hle
    cases hm with
    | nil => simp at hle; omega
    | own c1 c2 =>
      simp only [iaV, stM, c2] at k4 ⊢
      have := congrArg Mem.h k4
      simp only at this
      rw [this]
  refine ⟨bv, a1, fun L g => (a2 L g).trans rfl, l1, l2, k1, k2, fun L g => (key L g).2.2.1, H', hst, ⟨⟨bv, pl, h1.fr (Nat.le_of_eq k6.symm) (k7 _ h4), k5, ?_, h4, h5, h6, h7, h8⟩, hge⟩, .mk' (off := 0) h1 (h1.fr (Nat.le_of_eq k6.symm) (k7 _ h4)) rfl (Nat.le_of_eq k6.symm) (fun i _ _ hi => k7 i fun hh => hi (idA_ids hh)) fun i hi => .inl hi⟩
  exact Mn.fr h3 (Nat.le_of_eq k6.symm) fun i hi => k7 i fun hh => h6 i hh hi
theorem prs_lab {fs d : List UInt8} : ∀ {ps : List (UInt8 × List UInt8)}, prs fs d = some ps → (∀ p, p ∈ ps → p.1 = 110 → (labGo p.2).isSome = true ∧ p.2.length ≤ 255) ∧ d = ps.flatMap Prod.snd ∧ ps.map Prod.fst = fs := by
  induction fs generalizing d with
  | nil =>
    intro ps h
    rw [prs] at h
    by_cases hd : d = []
    · rw [if_pos hd] at h; cases h; exact ⟨by simp, by simp [hd], rfl⟩
    · rw [if_neg hd] at h; cases h
  | cons f fs ih =>
    intro ps h
    rw [prs] at h
    cases hp : part f d with
    | none => rw [hp] at h; cases h
    | some p =>
      rw [hp] at h
      simp only at h
      cases hr : prs fs (d.drop p.length) with
      | none => rw [hr] at h; cases h
      | some r =>
        rw [hr] at h
        cases h
        obtain ⟨i1, i2, i3⟩ := ih hr
        have hpt : d = p ++ d.drop p.length := by
          have hh : d.take p.length = p := by
            rw [part_of] at hp
            have a1 := nmAt_le d
            have hpre : ∀ s : List UInt8, s.take (txt s).length = txt s := fun s => by
              cases s with
              | nil => rfl
              | cons c r =>
                simp only [txt]
                split
                · rfl
                · simp <;> omega
            have hpre2 : ∀ (n : Nat) (s : List UInt8), s.length ≤ n → s.take (txts s).length = txts s := fun n => by
              induction n with
              | zero =>
                intro s hs
                have e0 : s = [] := List.eq_nil_of_length_eq_zero (by omega)
                subst e0
                rw [txts_nil rfl]; rfl
              | succ n ih =>
                intro s hs
                by_cases ht : txt s = []
                · rw [txts_nil ht]; rfl
                · have h1 := List.length_pos_iff.2 ht
                  rw [txts_cons ht, List.length_append, List.take_add, hpre, ih (s.drop (txt s).length) (by simp; omega)]
            repeat' split at hp
            all_goals first | (cases hp; done) | (injection hp with hp; subst hp; first | exact hpre d | exact hpre2 _ d (Nat.le_refl _) | exact List.take_length | (rw [List.length_take, Nat.min_eq_left a1]) | (rw [List.length_take, Nat.min_eq_left (List.length_pos_iff.2 (by assumption))]))
          conv => lhs; rw [← List.take_append_drop p.length d, hh]
        refine ⟨fun q hq hq1 => ?_, by rw [List.flatMap_cons, ← i2]; exact hpt, by rw [List.map_cons, i3]⟩
        rcases List.mem_cons.1 hq with rfl | hq
        · simp only at hq1
          subst hq1
          rw [part_of, if_pos rfl] at hp
          by_cases hn : nmAt d = 0
          · rw [if_pos hn] at hp; cases hp
          · rw [if_neg hn] at hp
            injection hp with hp
            subst hp
            refine ⟨nmAt_lab hn, ?_⟩
            have : ∀ (n : Nat) (l : List UInt8) (i : Nat), l.length ≤ n → nmGo l i ≤ 255 := fun n => by
              induction n with
              | zero => intro l i hl; rw [List.eq_nil_of_length_eq_zero (Nat.le_zero.1 hl), nmGo_nil]; omega
              | succ n ih =>
                intro l i hl
                cases l with
                | nil => rw [nmGo_nil]; omega
                | cons c r =>
                  rw [nmGo]
                  simp only [List.length_cons] at hl
                  repeat' split
                  · omega
                  · omega
                  · omega
                  · exact ih _ _ (by simp; omega)
            have := this _ d 0 (Nat.le_refl _)
            simp only [List.length_take]
            unfold nmAt
            omega
        · exact i1 q hq hq1
theorem wrParts_wf : ∀ (ps : List (UInt8 × List UInt8)) (s : EncSt), (∀ p, p ∈ ps → p.1 = 110 → (labGo p.2).isSome = true ∧ p.2.length ≤ 255) → wfS s → wfS (wrParts s ps) ∧ s.1.length ≤ (wrParts s ps).1.length ∧ (wrParts s ps).1.length ≤ s.1.length + (ps.flatMap Prod.snd).length
  | [], s, _, h => ⟨h, Nat.le_refl _, by simp [wrParts]⟩
  | (f, p) :: r, s, hp, h => by
    rw [wrParts]
    simp only [List.flatMap_cons, List.length_append]
    by_cases hf : f = 110
    · rw [if_pos hf]
      obtain ⟨a, b, c⟩ := wrName_wf _ p s (Nat.le_refl _) (hp (f, p) (by simp) hf).1 h
      obtain ⟨x, y, z⟩ := wrParts_wf r _ (fun q hq => hp q (by simp [hq])) a
      exact ⟨x, by omega, by omega⟩
    · rw [if_neg hf]
      obtain ⟨x, y, z⟩ := wrParts_wf r _ (fun q hq => hp q (by simp [hq])) (wrTxt_wf p h)
      have e : (wrTxt s p).1.length = s.1.length + p.length := by simp [wrTxt]
      rw [e] at y z
      exact ⟨x, by omega, by omega⟩
structure RecOk (r : Rr) : Prop where
  o : (labGo r.o).isSome = true ∧ r.o.length ≤ 255
  t : 0 ≤ r.t ∧ r.t ≤ 65535
  c : 0 ≤ r.c ∧ r.c ≤ 65535
  ttl : 0 ≤ r.ttl ∧ r.ttl ≤ 4294967295
  d : r.d = [] ∨ (chk r.t r.d = 0 ∧ r.d.length ≤ 65535 ∧ ∃ ps, prs (specForm r.t) r.d = some ps)
theorem recOk_iff {r : Rr} (h : recOkB r = true) : RecOk r := by
  simp only [recOkB, Bool.and_eq_true, decide_eq_true_eq, Bool.or_eq_true] at h
  obtain ⟨⟨⟨⟨h1, h2⟩, h3⟩, h4⟩, h5⟩ := h
  obtain ⟨n1, n2⟩ := nameL_lab h1
  refine ⟨⟨n2, n1⟩, h2, h3, h4, ?_⟩
  rcases h5 with h5 | h5
  · exact .inl h5
  · right
    have hc := h5
    unfold chk at h5
    rw [if_neg (by omega)] at h5
    split at h5
    · cases h5
    · rename_i hn
      cases hp : prs (specForm r.t) r.d with
      | none => rw [hp] at hn; simp at hn
      | some ps => exact ⟨hc, by omega, ps, rfl⟩
theorem wrRec0_wf {s : EncSt} {r : Rr} (hr : RecOk r) (h : wfS s) : wfS (wrTxt (wrName s r.o) (recH r)) ∧ wfS (wrRec0 s r) ∧ s.1.length + 10 ≤ (wrTxt (wrName s r.o) (recH r)).1.length ∧ (wrTxt (wrName s r.o) (recH r)).1.length ≤ (wrRec0 s r).1.length ∧ (wrTxt (wrName s r.o) (recH r)).1.length ≤ s.1.length + r.o.length + 10 ∧ (wrRec0 s r).1.length ≤ (wrTxt (wrName s r.o) (recH r)).1.length + r.d.length := by
  obtain ⟨a, b, c⟩ := wrName_wf _ r.o s (Nat.le_refl _) hr.o.1 h
  have hl : (recH r).length = 10 := by simp [recH, be16, be32]
  have a2 := wrTxt_wf (recH r) a
  have e : (wrTxt (wrName s r.o) (recH r)).1.length = (wrName s r.o).1.length + 10 := by simp [wrTxt, hl]
  refine ⟨a2, ?_⟩
  unfold wrRec0
  by_cases hd : r.d = [] ∨ hasP r.t = false
  · rw [if_pos hd]
    refine ⟨wrTxt_wf _ a2, by omega, ?_, by omega, ?_⟩ <;> simp only [wrTxt, List.length_append] <;> omega
  · rw [if_neg hd]
    rcases hr.d with h0 | ⟨-, -, ps, hps⟩
    · exact absurd (.inl h0) hd
    · rw [hps]
      obtain ⟨p1, p2, -⟩ := prs_lab hps
      obtain ⟨x, y, z⟩ := wrParts_wf ps _ p1 a2
      rw [← p2] at z
      exact ⟨x, by omega, y, by omega, z⟩
theorem wrRec_wf {s : EncSt} {r : Rr} (hr : RecOk r) (h : wfS s) : wfS (wrRec s r) ∧ s.1.length ≤ (wrRec s r).1.length ∧ (wrRec s r).1.length ≤ s.1.length + r.o.length + 10 + r.d.length := by
  obtain ⟨a, b, c, d, e, f⟩ := wrRec0_wf hr h
  have hl : (wrRec s r).1.length = (wrRec0 s r).1.length := by simp [wrRec, patch]
  exact ⟨⟨b.near, by rw [hl]; exact b.few⟩, by omega, by omega⟩
section
variable {C : Tab}
set_option maxHeartbeats 1000000 in
theorem r_wrec {n0 pid : Nat} {s : EncSt} {r : Rr} {H : AH} (hN : T_wname C n_spec_l04Name) (hP : T_put2 C n_spec_l02Put) (hP4 : T_put4 C n_spec_l02Put) (hT : T_wtext C n_spec_l04Text) (hG : T_pointed C n_spec_l04Pointed) (hF : T_form C n_spec_l02Form) (hR : T_parts C n_spec_l02Parts)
    (h : WS H n0 pid s) (hs : wfS s) (hq : recOkB r = true) (hl : s.1.length + r.o.length + r.d.length ≤ 1099510000000) :
    Runs C c_spec_l04WriteRecord [.pv pid 0, eR.v r] H fun v H' => v = .tp [] ∧ WS H' n0 pid (wrRec s r) ∧ Wk pid H H' := by
  have hr := recOk_iff hq
  obtain ⟨wa, wb, wc, wd, we, wf⟩ := wrRec0_wf hr hs
  obtain ⟨v1, H1, k1, rfl, s1, b1⟩ := hN n0 pid s r.o H h hs.near hr.o.1 (by omega) (by have := hs.few; omega)
  obtain ⟨H2, k2, e2⟩ := hP r.t.toNat H1 (by have := hr.t; omega)
  obtain ⟨H3, k3, e3⟩ := hP r.c.toNat H2 (by have := hr.c; omega)
  obtain ⟨H4, k4, e4⟩ := hP4 r.ttl.toNat H3 (by have := hr.ttl; omega)
  rw [Int.toNat_of_nonneg hr.t.1] at k2
  rw [Int.toNat_of_nonneg hr.c.1] at k3
  rw [Int.toNat_of_nonneg hr.ttl.1] at k4
  have s4 := s1.ext ((e2.trans e3).trans e4)
  obtain ⟨v5, H5, k5, rfl, s5, b5⟩ := hT n0 pid (wrName s r.o) (recH r) H4 s4 (by simp only [wrTxt, List.length_append] at wc we; omega)
  have cap1 : (be16 r.t.toNat).length + (be16 r.c.toNat).length ≤ 9223372036854775807 := by simp [be16]
  have cap2 : (be16 r.t.toNat ++ be16 r.c.toNat).length + (be32 r.ttl.toNat).length ≤ 9223372036854775807 := by simp [be16, be32]
  have cap3 : (be16 r.t.toNat ++ be16 r.c.toNat ++ be32 r.ttl.toNat).length + 2 ≤ 9223372036854775807 := by simp [be16, be32]
  have hrh : be16 r.t.toNat ++ be16 r.c.toNat ++ be32 r.ttl.toNat ++ [0, 0] = recH r := rfl
  have b15 : Wk pid H H5 := (b1.trans (.of_ext ((e2.trans e3).trans e4) s1.lt.1)).trans b5
  obtain ⟨⟨bv5, pl5, o5, m5, x5, -⟩, -⟩ := id s5
  obtain ⟨c1, c2⟩ := o5.ld (off := 0) (by simp)
  have c2' := fun (L : List Lv) (g : Nat) => (c2 L g).trans (show _ = bv5 from rfl)
  obtain ⟨l1, l2⟩ := Byt.len m5.sl
  generalize hF1 : wrTxt (wrName s r.o) (recH r) = S1 at *
  generalize hfr : S1.1.length = from' at *
  obtain ⟨ro, rt, rc, rttl, rd⟩ := r
  simp only at *
  -- the end: the length, laid
  have fin : ∀ (H6 : AH) (S2 : EncSt), WS H6 n0 pid S2 → Wk pid H H6 → wrRec0 s ⟨ro, rt, rc, rttl, rd⟩ = S2 → ∃ bv n', (∀ (L : List Lv) (g : Nat), ldC ⟨L, g, H6⟩ none (.pv pid 0)) ∧ (∀ (L : List Lv) (g : Nat), ldX ⟨L, g, H6⟩ none (.pv pid 0) = bv) ∧ lenV bv = .i .i64 S2.1.length ∧ lenC bv ∧ slZ H6 1 bv ∧ iaC ((from' - 2 : Nat) : Int) bv ∧
      IntKind.i64.wrap ((S2.1.length : Int) - (from' : Int)) = ((n' : Nat) : Int) ∧ IntKind.i64.wrap ((from' : Int) - 2) = ((from' - 2 : Nat) : Int) ∧ IntKind.i64.wrap ((from' : Int) - 1) = ((from' - 1 : Nat) : Int) ∧ (n' : Int).fdiv (2 ^ (min 8 IntKind.i64.bits)) = ((n' / 256 : Nat) : Int) ∧ IntKind.u8.wrap ((n' / 256 : Nat) : Int) = ((UInt8.ofNat (n' / 256)).toNat : Int) ∧ IntKind.u8.wrap ((n' : Nat) : Int) = ((UInt8.ofNat n').toNat : Int) ∧
      (∀ (L : List Lv) (g : Nat), stC ⟨L, g, H6⟩ (.i .u8 (UInt8.ofNat (n' / 256)).toNat) (iaV (from' - 2) bv)) ∧ ∃ H7, (∀ (L : List Lv) (g : Nat), stM ⟨L, g, H6⟩ (.i .u8 (UInt8.ofNat (n' / 256)).toNat) (iaV (from' - 2) bv) = ⟨L, g, H7⟩) ∧
      ∃ bv', (∀ (L : List Lv) (g : Nat), ldC ⟨L, g, H7⟩ none (.pv pid 0)) ∧ (∀ (L : List Lv) (g : Nat), ldX ⟨L, g, H7⟩ none (.pv pid 0) = bv') ∧ slZ H7 1 bv' ∧ iaC ((from' - 1 : Nat) : Int) bv' ∧ (∀ (L : List Lv) (g : Nat), stC ⟨L, g, H7⟩ (.i .u8 (UInt8.ofNat n').toNat) (iaV (from' - 1) bv')) ∧
      ∃ H8, (∀ (L : List Lv) (g : Nat), stM ⟨L, g, H7⟩ (.i .u8 (UInt8.ofNat n').toNat) (iaV (from' - 1) bv') = ⟨L, g, H8⟩) ∧ WS H8 n0 pid (wrRec s ⟨ro, rt, rc, rttl, rd⟩) ∧ Wk pid H H8 := by
    intro H6 S2 hw hb hS2
    rw [hS2] at wd wf
    obtain ⟨bv, p1, p2, p3, p4, p5, p6, p7, H7, p8, p9, p10⟩ := hw.stB (j := from' - 2) (by omega) (UInt8.ofNat ((S2.1.length - from') / 256))
    obtain ⟨bv', q1, q2, -, -, q5, q6, q7, H8, q8, q9, q10⟩ := p9.stB (j := from' - 1) (by simp; omega) (UInt8.ofNat (S2.1.length - from'))
    refine ⟨bv, S2.1.length - from', p1, p2, p3, p4, p5, p6, by rw [w64 (by omega) (by omega)]; omega, by rw [w64 (by omega) (by omega)]; omega, by rw [w64 (by omega) (by omega)]; omega, fdiv_nat _ 8, u8w _, u8w _, p7, H7, p8, bv', q1, q2, q5, q6, q7, H8, q8, ?_, (hb.trans p10).trans q10⟩
    have e : wrRec s ⟨ro, rt, rc, rttl, rd⟩ = ((S2.1.set (from' - 2) (UInt8.ofNat ((S2.1.length - from') / 256))).set (from' - 1) (UInt8.ofNat (S2.1.length - from')), S2.2) := by
      simp only [wrRec, patch, hF1, hfr, hS2]
    rw [e]
    exact q9
  unfold Runs c_spec_l04WriteRecord
  have hgp := fun H => hG rt H
  simp only [Enc.v, eR]
  by_cases hd0 : rd = []
  · obtain ⟨v6, H6, k6, rfl, s6, b6⟩ := hT n0 pid S1 rd H5 s5 (by omega)
    obtain ⟨bv, n', f1, f2, f3, f4, f5, f6, f7, f8, f9, f10, f11, f12, f13, H7, f14, bv', f15, f16, f17, f18, f19, H8, f20, f21, f22⟩ := fin H6 _ s6 (b15.trans b6) (by rw [wrRec0, if_pos (.inl hd0), hF1])
    subst hd0
    have hd0' : (([] : List UInt8) = []) = True := eq_self _
    simp only [wrTxt, List.append_nil, hfr] at f3
    simp only [wrTxt, List.append_nil, hfr] at f7
    simp -implicitDefEqProofs only [bU, reduceIte, Nat.reduceEqDiff, reduceCtorEq, implies_true, forall_const, eq_self, Nat.reduceAdd, Nat.reduceLT, bne_self_eq_false, bT, eq_self, true_implies, false_implies, forall_const, if_true, if_false, Int.reduceToNat, Nat.reduceSub, Int.reduceLE, bV, Nat.reduceAdd, Nat.reduceLT, Nat.reduceLeDiff, Nat.reduceLeDiff, nc_pv, pv_faC, pv_faV, lgAt, isRd, k1, k2, k3, k4, cap1, cap2, cap3, hrh, k5, c1, c2', l1, l2, hd0', k6, f1, f2, f3, f4, f5, f6, f7, f8, f9, f10, f11, f12, f13, f14, f15, f16, f17, f18, f19, f20, toNat_nat, endK, rsC, rsV, resV]
    exact ⟨f21, f22⟩
  · by_cases hp : hasP rt = false
    · rw [hp] at hgp
      obtain ⟨v6, H6, k6, rfl, s6, b6⟩ := hT n0 pid S1 rd H5 s5 (by omega)
      obtain ⟨bv, n', f1, f2, f3, f4, f5, f6, f7, f8, f9, f10, f11, f12, f13, H7, f14, bv', f15, f16, f17, f18, f19, H8, f20, f21, f22⟩ := fin H6 _ s6 (b15.trans b6) (by rw [wrRec0, if_pos (.inr hp), hF1])
      simp -implicitDefEqProofs only [bU, reduceIte, Nat.reduceEqDiff, reduceCtorEq, implies_true, forall_const, eq_self, Nat.reduceAdd, Nat.reduceLT, bne_self_eq_false, bT, eq_self, true_implies, false_implies, forall_const, if_true, if_false, Int.reduceToNat, Nat.reduceSub, Int.reduceLE, bV, Nat.reduceAdd, Nat.reduceLT, Nat.reduceLeDiff, Nat.reduceLeDiff, nc_pv, pv_faC, pv_faV, lgAt, isRd, k1, k2, k3, k4, cap1, cap2, cap3, hrh, k5, c1, c2', l1, l2, hd0, hgp, k6, f1, f2, f3, f4, f5, f6, f7, f8, f9, f10, f11, f12, f13, f14, f15, f16, f17, f18, f19, f20, toNat_nat, endK, rsC, rsV, resV]
      exact ⟨f21, f22⟩
    · have hp' : hasP rt = true := by simpa using hp
      rw [hp'] at hgp
      rcases hr.d with h0 | ⟨hchk, hdl, ps, hps⟩
      · exact absurd h0 hd0
      simp only at hps hdl
      have kf := fun H => hF rt H
      obtain ⟨v6, H6, k6, e6, k7⟩ := hR (specForm rt) rd H5 (specForm_len rt) (by omega)
      rw [hps] at k7
      obtain ⟨o, rfl, hm, hoi⟩ := k7
      obtain ⟨pl1, pl2, pl3⟩ := prs_lab hps
      have ho := hm.sl.out
      have hm' : Mn H6 1 o ((ps.map Prod.snd).map AV.s) := by rw [List.map_map]; exact hm
      have hlen : ∀ H', Ext H6 H' ∨ True := fun _ => .inr trivial
      obtain ⟨lo1, lo2⟩ := hm.sl.len
      rw [List.length_map] at lo1
      simp -implicitDefEqProofs only [bU, reduceIte, Nat.reduceEqDiff, reduceCtorEq, implies_true, forall_const, eq_self, Nat.reduceAdd, Nat.reduceLT, bne_self_eq_false, bT, eq_self, true_implies, false_implies, forall_const, if_true, if_false, Int.reduceToNat, Nat.reduceSub, Int.reduceLE, bV, Nat.reduceAdd, Nat.reduceLT, Nat.reduceLeDiff, Nat.reduceLeDiff, nc_pv, pv_faC, pv_faV, lgAt, isRd, k1, k2, k3, k4, cap1, cap2, cap3, hrh, k5, c1, c2', l1, l2, hd0, hgp, kf, k6, ho]
      have hfl : (specForm rt).length = ps.length := by rw [← pl3, List.length_map]
      have hpsl : ps.length ≤ 1000 := by rw [← hfl]; exact specForm_len rt
      refine exec_loop (fun n e M => ∃ (i : Nat) (H' : AH) (L : List Lv) (g : Nat), i ≤ ps.length ∧ n = ps.length - i ∧ look e 0 = .pv pid 0 ∧ look e 4 = .i .i64 from' ∧ look e 5 = .s (specForm rt) ∧ look e 6 = o ∧ look e 8 = .i .i64 i ∧ M = ⟨L, g, H'⟩ ∧ WS H' n0 pid (wrParts S1 (ps.take i)) ∧ Wk pid H H' ∧ Sl H' 1 o (ps.map fun p => AV.s p.2) ∧ ∀ j, j ∈ idA o → ¬ Fp H' pid j) ?_ (n := ps.length)
        ⟨0, H6, _, _, by omega, by omega, rfl, rfl, rfl, rfl, rfl, rfl, s5.ext e6, b15.trans (.of_ext e6 s5.lt.1), hm.sl, fun j hj hh => by
          have h1 := hoi j hj
          rcases hh with rfl | ⟨cs, hcs, a, ha, hia⟩
          · have := s5.lt.1; omega
          · have := hcs.same (o5.ext e6)
            subst this
            simp only [List.mem_cons, List.not_mem_nil, or_false] at ha
            rcases ha with rfl | rfl
            · have := Mn.lt m5 j (by rw [← Mn.ids m5]; exact hia); omega
            · have := Mn.lt x5 j (by rw [← Mn.ids x5]; exact hia); omega⟩
      rintro n e M ⟨i, H', L, g, hi, rfl, q0, q4, q5, q6, q8, rfl, hw, hb, hsl, hnf⟩
      have i0 : (0 : Int) ≤ i := by omega
      have hwf := wrParts_wf (ps.take i) S1 (fun p hp => pl1 p (List.mem_of_mem_take hp)) wa
      have hcat : ∀ k, ((ps.take k).flatMap Prod.snd).length ≤ rd.length := fun k => by
        conv => rhs; rw [pl2, ← List.take_append_drop k ps, List.flatMap_append, List.length_append]
        omega
      by_cases hlt : (i : Int) < ps.length
      · have hil : i < ps.length := by omega
        have hlt2 : (i : Int) < (specForm rt).length := by omega
        have w9 : IntKind.i64.wrap ((i : Int) + 1) = ((i + 1 : Nat) : Int) := by rw [w64 (by omega) (by omega)]; rfl
        have hf : (specForm rt).getD i 0 = ps[i].1 := by
          rw [← pl3]; simp [List.getD, hil]
        have hget : (ps.map fun p => AV.s p.2).getD i .u = .s ps[i].2 := by simp [List.getD, hil]
        have hia : ∀ (L : List Lv) (g : Nat), slZ H' 1 o ∧ iaC (i : Int) o ∧ ldC ⟨L, g, H'⟩ none (iaV i o) ∧ ldX ⟨L, g, H'⟩ none (iaV i o) = .s ps[i].2 := fun L g => by
          have := hsl.ia1 (j := i) (by omega) (by simpa using hlt) (v := .s ps[i].2) (by rw [Int.toNat_natCast, hget]; rfl) L g
          rwa [Int.toNat_natCast] at this
        have z1 := (hia [] 0).1
        have z2 := (hia [] 0).2.1
        have z3 := fun L g => (hia L g).2.2.1
        have z4 := fun L g => (hia L g).2.2.2
        have hstep : wrParts S1 (ps.take (i + 1)) = if ps[i].1 = 110 then wrName (wrParts S1 (ps.take i)) ps[i].2 else wrTxt (wrParts S1 (ps.take i)) ps[i].2 := by
          rw [← List.take_append_getElem hil]
          generalize ps.take i = l
          generalize S1 = S
          induction l generalizing S with
          | nil => simp [wrParts]
          | cons x l ih => simp only [List.cons_append, wrParts]; exact ih _
        have hpl : ps[i].2.length ≤ rd.length := by
          have := hcat (i + 1)
          rw [← List.take_append_getElem hil, List.flatMap_append, List.length_append] at this
          simp at this
          omega
        have hci := hcat i
        by_cases hn : ps[i].1 = 110
        · have hn' : (((ps[i].1).toNat : Nat) : Int) = 110 := by rw [hn]; rfl
          have hn'' := eq_true hn'
          obtain ⟨pa, pb⟩ := pl1 _ (List.getElem_mem hil) hn
          obtain ⟨v9, H9, k9, rfl, s9, b9⟩ := hN n0 pid _ ps[i].2 H' hw hwf.1.near pa (by omega) (by have := hwf.1.few; omega)
          rw [if_pos hn] at hstep
          simp -implicitDefEqProofs only [bU, reduceIte, Nat.reduceEqDiff, reduceCtorEq, implies_true, forall_const, eq_self, Nat.reduceAdd, Nat.reduceLT, bne_self_eq_false, bT, eq_self, true_implies, false_implies, forall_const, if_true, if_false, Int.reduceToNat, Nat.reduceSub, Int.reduceLE, bV, Nat.reduceAdd, Nat.reduceLT, Nat.reduceLeDiff, Nat.reduceLeDiff, q0, q4, q5, q6, q8, lo1, lo2, hlt, hlt2, i0, toNat_nat, hf, hn'', z1, z2, z3, z4, k9, w9]
          exact ⟨ps.length - (i + 1), by omega, i + 1, H9, _, _, by omega, rfl, rfl, rfl, by rw [hstep]; exact s9, hb.trans b9, b9.sl hsl hnf, fun j hj hh => (b9.fp j hh).elim (hnf j hj) fun h2 => by have := hsl.lt j hj; omega⟩
        · have hn' : ¬ (((ps[i].1).toNat : Nat) : Int) = 110 := fun hh => hn (UInt8.toNat_inj.1 (by rw [show (110 : UInt8).toNat = 110 from rfl]; omega))
          obtain ⟨v9, H9, k9, rfl, s9, b9⟩ := hT n0 pid _ ps[i].2 H' hw (by omega)
          rw [if_neg hn] at hstep
          simp -implicitDefEqProofs only [bU, reduceIte, Nat.reduceEqDiff, reduceCtorEq, implies_true, forall_const, eq_self, Nat.reduceAdd, Nat.reduceLT, bne_self_eq_false, bT, eq_self, true_implies, false_implies, forall_const, if_true, if_false, Int.reduceToNat, Nat.reduceSub, Int.reduceLE, bV, Nat.reduceAdd, Nat.reduceLT, Nat.reduceLeDiff, Nat.reduceLeDiff, q0, q4, q5, q6, q8, lo1, lo2, hlt, hlt2, i0, toNat_nat, hf, hn', z1, z2, z3, z4, k9, w9]
          exact ⟨ps.length - (i + 1), by omega, i + 1, H9, _, _, by omega, rfl, rfl, rfl, by rw [hstep]; exact s9, hb.trans b9, b9.sl hsl hnf, fun j hj hh => (b9.fp j hh).elim (hnf j hj) fun h2 => by have := hsl.lt j hj; omega⟩
      · have hie : i = ps.length := by omega
        rw [hie, List.take_length] at hw
        obtain ⟨bv, n', f1, f2, f3, f4, f5, f6, f7, f8, f9, f10, f11, f12, f13, H7, f14, bv', f15, f16, f17, f18, f19, H8, f20, f21, f22⟩ := fin H' _ hw hb (by rw [wrRec0, if_neg (by simp [hd0, hp']), hF1, hps]; rfl)
        simp -implicitDefEqProofs only [bU, reduceIte, Nat.reduceEqDiff, reduceCtorEq, implies_true, forall_const, eq_self, Nat.reduceAdd, Nat.reduceLT, bne_self_eq_false, bT, eq_self, true_implies, false_implies, forall_const, if_true, if_false, Int.reduceToNat, Nat.reduceSub, Int.reduceLE, bV, Nat.reduceAdd, Nat.reduceLT, Nat.reduceLeDiff, Nat.reduceLeDiff, nc_pv, pv_faC, pv_faV, q0, q4, q5, q6, q8, lo1, lo2, hlt, f1, f2, f3, f4, f5, f6, f7, f8, f9, f10, f11, f12, f13, f14, f15, f16, f17, f18, f19, f20, toNat_nat, endK, rsC, rsV, resV]
        exact ⟨f21, f22⟩
end
end Go.Vm

/- The specification's writer of messages: whole messages. -/
namespace Go.Vm
set_option linter.unusedVariables false
set_option linter.unusedSimpArgs false
theorem wrQ_wf {s : EncSt} {q : Qn} (hq : qOk q = true) (h : wfS s) : wfS (wrQ s q) ∧ (wrQ s q).1.length ≤ s.1.length + q.n.length + 4 := by
  obtain ⟨g1, g2, g3⟩ := qOk_iff hq
  obtain ⟨n1, n2⟩ := nameL_lab g1
  obtain ⟨a, b, c⟩ := wrName_wf _ q.n s (Nat.le_refl _) n2 h
  refine ⟨wrTxt_wf _ a, ?_⟩
  simp only [wrQ, wrTxt, List.length_append, be16, List.length_cons, List.length_nil]
  omega
theorem wrQs_wf : ∀ (l : List Qn) (s : EncSt), (∀ q, q ∈ l → qOk q = true) → wfS s → wfS (wrQs s l) ∧ (wrQs s l).1.length ≤ s.1.length + tot' w_Question l + 4 * l.length
  | [], s, _, h => ⟨h, by simp [wrQs, tot']⟩
  | q :: l, s, hq, h => by
    obtain ⟨a, b⟩ := wrQ_wf (hq q (by simp)) h
    obtain ⟨c, d⟩ := wrQs_wf l (wrQ s q) (fun x hx => hq x (by simp [hx])) a
    refine ⟨c, ?_⟩
    simp only [wrQs, List.foldl_cons, tot', w_Question, List.length_cons] at d ⊢
    omega
theorem wrRs_wf : ∀ (l : List Rr) (s : EncSt), (∀ q, q ∈ l → recOkB q = true) → wfS s → wfS (wrRs s l) ∧ (wrRs s l).1.length ≤ s.1.length + tot' w_RR l + 10 * l.length
  | [], s, _, h => ⟨h, by simp [wrRs, tot']⟩
  | q :: l, s, hq, h => by
    obtain ⟨a, -, b⟩ := wrRec_wf (recOk_iff (hq q (by simp))) h
    obtain ⟨c, d⟩ := wrRs_wf l (wrRec s q) (fun x hx => hq x (by simp [hx])) a
    refine ⟨c, ?_⟩
    simp only [wrRs, List.foldl_cons, tot', w_RR, List.length_cons] at d ⊢
    omega
theorem wrQs_step {s : EncSt} {l : List Qn} {i : Nat} (hi : i < l.length) : wrQs s (l.take (i + 1)) = wrQ (wrQs s (l.take i)) l[i] := by
  unfold wrQs; rw [← List.take_append_getElem hi, List.foldl_append]; rfl
theorem wrRs_step {s : EncSt} {l : List Rr} {i : Nat} (hi : i < l.length) : wrRs s (l.take (i + 1)) = wrRec (wrRs s (l.take i)) l[i] := by
  unfold wrRs; rw [← List.take_append_getElem hi, List.foldl_append]; rfl
theorem tot_take {α : Type} (w : α → Nat) (l : List α) (i : Nat) : tot' w (l.take i) ≤ tot' w l := by
  conv => rhs; rw [← List.take_append_drop i l, tot_app']
  omega
structure MsgOk (m : Msg) : Prop where
  h : hdOk m.h = true
  n : m.q.length + m.an.length + m.au.length + m.ex.length ≤ 400
  q : ∀ x, x ∈ m.q → qOk x = true
  a : ∀ x, x ∈ m.an → recOkB x = true
  b : ∀ x, x ∈ m.au → recOkB x = true
  c : ∀ x, x ∈ m.ex → recOkB x = true
theorem msgOk_iff {m : Msg} (h : msgOk m = true) : MsgOk m := by
  simp only [msgOk, Bool.and_eq_true, decide_eq_true_eq, List.all_eq_true] at h
  obtain ⟨⟨⟨h1, h2⟩, h3⟩, ⟨h4, h5⟩, h6⟩ := h
  exact ⟨h1, h2, h3, h4, h5, h6⟩
def T_write (C : Tab) (f : Nat) : Prop := ∀ (q a b c : AV) (m : Msg) (H : AH), FormsOK H → MsgS H q a b c m → szM m ≤ 1048576 → msgOk m = true → ∃ v H', C f [mV m.h q a b c] H = some (v, H') ∧ Ext H H' ∧ Mb H' v (wrM m).1 ∧ ∀ i, i ∈ idA v → H.n ≤ i
/-- Lists of records, one behind the other. -/
def wrL (s : EncSt) (ls : Nat → List Rr) : Nat → EncSt
  | 0 => s
  | k + 1 => wrRs (wrL s ls k) (ls k)
section
variable {C : Tab}
set_option maxHeartbeats 1000000 in
theorem r_swrite {q a b c : AV} {m : Msg} {H : AH} (hH : T_shead C n_spec_l04Head) (hT : T_wtext C n_spec_l04Text) (hQ : T_squestion C n_spec_l04Question) (hR : T_wrec C n_spec_l04WriteRecord) (h : MsgS H q a b c m) (hs : szM m ≤ 1048576) (hm : msgOk m = true) :
    Runs C c_spec_l04Write [mV m.h q a b c] H fun v H' => Ext H H' ∧ Mb H' v (wrM m).1 ∧ ∀ i, i ∈ idA v → H.n ≤ i := by
  unfold Runs c_spec_l04Write mV
  obtain ⟨g0, g1, g2, g3, g4, g5⟩ := msgOk_iff hm
  have hs' := hs
  unfold szM at hs'
  have o1 := h.hq.out
  have o2 := h.ha.out
  have o3 := h.hb.out
  have o4 := h.hc.out
  have y1 := h.hq.one
  have y2 := h.ha.one
  have y3 := h.hb.one
  have y4 := h.hc.one
  obtain ⟨l1, m1⟩ := h.hq.len
  obtain ⟨l2, m2⟩ := h.ha.len
  obtain ⟨l3, m3⟩ := h.hb.len
  obtain ⟨l4, m4⟩ := h.hc.len
  have hat : (H.new (.arr true 0 2 [.ag [.ns, .ns]])).at' H.n = .arr true 0 2 [.ag [.ns, .ns]] := new_at
  have st1 : ∀ (L : List Lv) (g : Nat), stC ⟨L, g, H.new (.arr true 0 2 [.ag [.ns, .ns]])⟩ (.ag [.ns, .ns]) (.pv H.n 0) := fun L g => by
    simp only [stC, hat]
    exact ⟨trivial, trivial, rfl, by decide⟩
  have st2 : ∀ (L : List Lv) (g : Nat), stM ⟨L, g, H.new (.arr true 0 2 [.ag [.ns, .ns]])⟩ (.ag [.ns, .ns]) (.pv H.n 0) = ⟨L, g, H.new (.arr true 0 2 [.ag [.ns, .ns]])⟩ := fun L g => by
    simp only [stM, hat]
    rw [show setEl (AV.ag [AV.ns, AV.ns]) 0 (AV.ag [AV.ns, AV.ns]) = AV.ag [AV.ns, AV.ns] from rfl, new_set]
  have hw0 : WS (H.new (.arr true 0 2 [.ag [.ns, .ns]])) H.n H.n ([], []) := ⟨⟨.ns, .ns, ⟨by simp, new_at⟩, .nil, .nil, by simp [idA], by simp [idA], fun i hi => by simp [idA] at hi, by simp [idA], by simp [idA]⟩, Nat.le_refl _⟩
  have e0 := Ext.new H (.arr true 0 2 [.ag [.ns, .ns]])
  obtain ⟨v1, H1, k1, rfl, e1⟩ := hH m.h m.q.length m.an.length m.au.length m.ex.length (H.new (.arr true 0 2 [.ag [.ns, .ns]])) g0 (by omega) (by omega) (by omega) (by omega)
  have hdl : (hdB m.h m.q.length m.an.length m.au.length m.ex.length).length = 12 := by simp [hdB, be16]
  obtain ⟨v2, H2, k2, rfl, s2, b2⟩ := hT H.n H.n ([], []) (hdB m.h m.q.length m.an.length m.au.length m.ex.length) H1 (hw0.ext e1) (by rw [hdl]; simp)
  simp only [Enc.v, eH] at k1
  have hS0 : wrTxt ([], []) (hdB m.h m.q.length m.an.length m.au.length m.ex.length) = (hdB m.h m.q.length m.an.length m.au.length m.ex.length, []) := rfl
  rw [hS0] at s2
  obtain ⟨S0, hS⟩ : ∃ S0 : EncSt, S0 = (hdB m.h m.q.length m.an.length m.au.length m.ex.length, []) := ⟨_, rfl⟩
  have wf0 : wfS S0 := by rw [hS]; exact ⟨fun e he => (by cases he), (by simp)⟩
  have hl0 : S0.1.length = 12 := by rw [hS]; exact hdl
  rw [← hS] at s2
  have eH2 : Ext H H2 := (b2.bl (by have := e1.n; simp at this; omega) (hw0.ext e1).fp).ext (e0.trans e1) (Nat.le_refl _)
  simp -implicitDefEqProofs only [bU, reduceIte, Nat.reduceEqDiff, reduceCtorEq, implies_true, forall_const, eq_self, Nat.reduceAdd, Nat.reduceLT, bne_self_eq_false, bT, eq_self, true_implies, false_implies, forall_const, if_true, if_false, Int.reduceToNat, Nat.reduceSub, Int.reduceLE, bV, Nat.reduceAdd, Nat.reduceLT, Nat.reduceLeDiff, Nat.reduceLeDiff, pv_faC, pv_faV, o1, o2, o3, o4, y1, y2, y3, y4, l1, l2, l3, l4, m1, m2, m3, m4, st1, st2, k1, k2]
  refine exec_loop (fun n e M => ∃ (i : Nat) (H' : AH) (L : List Lv) (g : Nat), i ≤ m.q.length ∧ n = m.q.length - i ∧ look e 1 = .la 1 0 0 0 ∧ look e 3 = .pv H.n 0 ∧ look e 5 = .i .i64 i ∧ M = ⟨L, g, H'⟩ ∧ keepL [1, 3, 5] L = [⟨1, 0, 0, [mV m.h q a b c]⟩] ∧ WS H' H.n H.n (wrQs S0 (m.q.take i)) ∧ Ext H H') ?_ (n := m.q.length)
    ⟨0, H2, _, _, by omega, by omega, rfl, rfl, rfl, rfl, rfl, s2, eH2⟩
  rintro n e M ⟨i, H', L, g, hi, rfl, q1, q3, q5, rfl, hL, hw, he⟩
  unfold mV at hL
  by_cases hlt : (i : Int) < m.q.length
  · have hil : i < m.q.length := by omega
    obtain ⟨b1, b2', b3, b4⟩ := Sx.at' (Sl.ext h.hq he) hil
    have hmem := List.getElem_mem hil
    have hwq := tot_mem' (w := w_Question) hmem
    simp only [w_Question] at hwq
    have hwf := wrQs_wf (m.q.take i) S0 (fun x hx => g2 x (List.mem_of_mem_take hx)) wf0
    have htk := tot_take w_Question m.q i
    have hlen : (m.q.take i).length ≤ i := by simp; omega
    obtain ⟨v, H3, k3, rfl, s3, w3⟩ := hQ H.n H.n _ m.q[i] H' hw hwf.1 (g2 _ hmem) (by omega)
    have w9 : IntKind.i64.wrap ((i : Int) + 1) = ((i + 1 : Nat) : Int) := by rw [w64 (by omega) (by omega)]; rfl
    simp only [show eQ.z = 3 from rfl, show eQ.v m.q[i] = AV.ag [.s m.q[i].n, .i .i64 m.q[i].t, .i .i64 m.q[i].c] from rfl] at b1 b3 b4 k3
    simp -implicitDefEqProofs only [bU, reduceIte, Nat.reduceEqDiff, reduceCtorEq, implies_true, forall_const, eq_self, Nat.reduceAdd, Nat.reduceLT, bne_self_eq_false, bT, eq_self, true_implies, false_implies, forall_const, if_true, if_false, Int.reduceToNat, Nat.reduceSub, Int.reduceLE, bV, Nat.reduceAdd, Nat.reduceLT, Nat.reduceLeDiff, Nat.reduceLeDiff, q1, q3, q5, hL, o1, o2, o3, o4, y1, y2, y3, y4, l1, m1, hlt, b1, b2', b3, b4, toNat_nat, k3, w9]
    exact ⟨m.q.length - (i + 1), by omega, i + 1, H3, _, _, by omega, rfl, rfl, rfl, rfl, by rw [wrQs_step hil]; exact s3, (w3.bl hw.lt.2 hw.fp).ext he (Nat.le_refl _)⟩
  · have hie : i = m.q.length := by omega
    rw [hie, List.take_length] at hw
    have hwfq := wrQs_wf m.q S0 g2 wf0
    generalize hSQ : wrQs S0 m.q = SQ at *
    obtain ⟨ls, hls⟩ : ∃ ls : Nat → List Rr, ls = fun j => if j = 0 then m.an else if j = 1 then m.au else m.ex := ⟨_, rfl⟩
    have hfin : (wrM m) = wrL SQ ls 3 := by
      rw [hls]; simp only [wrL, wrM, ← hSQ, hS]; rfl
    have hok : ∀ j x, x ∈ ls j → recOkB x = true := fun j x hx => by
      rw [hls] at hx; simp only at hx
      split at hx
      · exact g3 x hx
      · split at hx
        · exact g4 x hx
        · exact g5 x hx
    have hwL : ∀ j, j ≤ 3 → wfS (wrL SQ ls j) ∧ (wrL SQ ls j).1.length ≤ 3000000 + j * 15000000 := fun j => by
      induction j with
      | zero => intro _; exact ⟨hwfq.1, by simp only [wrL]; omega⟩
      | succ j ih =>
        intro hj
        obtain ⟨a1, a2⟩ := ih (by omega)
        obtain ⟨b1, b2⟩ := wrRs_wf (ls j) _ (hok j) a1
        refine ⟨b1, ?_⟩
        have : (ls j).length ≤ 1048576 ∧ tot' w_RR (ls j) ≤ 1048576 := by
          rw [hls]; simp only
          split
          · omega
          · split <;> omega
        simp only [wrL]
        omega
    simp -implicitDefEqProofs only [bU, reduceIte, Nat.reduceEqDiff, reduceCtorEq, implies_true, forall_const, eq_self, Nat.reduceAdd, Nat.reduceLT, bne_self_eq_false, bT, eq_self, true_implies, false_implies, forall_const, if_true, if_false, Int.reduceToNat, Nat.reduceSub, Int.reduceLE, bV, Nat.reduceAdd, Nat.reduceLT, Nat.reduceLeDiff, Nat.reduceLeDiff, q1, q3, q5, hL, o1, o2, o3, o4, y1, y2, y3, y4, l1, m1, hlt]
    clear q1 q3 q5 hL hlt
    refine exec_loop (fun n e M => ∃ (j : Nat) (H' : AH) (L : List Lv) (g : Nat), j ≤ 3 ∧ n = 3 - j ∧ look e 1 = .la 1 0 0 0 ∧ look e 3 = .pv H.n 0 ∧ look e 6 = .i .i64 j ∧ M = ⟨L, g, H'⟩ ∧ keepL [1, 3, 6] L = [⟨1, 0, 0, [mV m.h q a b c]⟩] ∧ WS H' H.n H.n (wrL SQ ls j) ∧ Ext H H') ?_ (n := 3)
      ⟨0, H', _, _, by omega, by omega, rfl, rfl, rfl, rfl, rfl, hw, he⟩
    clear hw he H' hi hie
    rintro n e M ⟨j, H', L, g, hj, rfl, q1, q3, q6, rfl, hL, hw, he⟩
    unfold mV at hL
    have w9 : IntKind.i64.wrap ((j : Int) + 1) = ((j + 1 : Nat) : Int) := by rw [w64 (by omega) (by omega)]; rfl
    by_cases hj3 : (j : Int) < 3
    · have hjn : j < 3 := by omega
      have key : ∀ (ax : AV) (e' : Env) (L' : List Lv) (g' : Nat) (κ : Kont) (B : S), B = sAt c_spec_l04Write.s [1, 1, 1, 1, 1, 0, 1, 2, 2, 1, 0, 2, 1, 1] → look e' 1 = .la 1 0 0 0 → look e' 3 = .pv H.n 0 → look e' 6 = .i .i64 j → look e' 7 = ax → keepL [1, 3, 6, 7, 8] L' = [⟨1, 0, 0, [mV m.h q a b c]⟩] →
          (∀ H2, Ext H H2 → Sx H2 eR ax (ls j)) → (∀ e2 L2 g2 H2, look e2 1 = .la 1 0 0 0 → look e2 3 = .pv H.n 0 → look e2 6 = .i .i64 j → keepL [1, 3, 6] L2 = [⟨1, 0, 0, [mV m.h q a b c]⟩] → WS H2 H.n H.n (wrL SQ ls (j + 1)) → Ext H H2 → κ .nx e2 ⟨L2, g2, H2⟩) → exec C B e' ⟨L', g', H'⟩ κ := by
        intro ax e' L' g' κ B hB r1 r3 r6 r7 hL' hax hκ
        rw [hB]
        simp only [c_spec_l04Write, sAt]
        have hax1 := hax H' he
        obtain ⟨x1, x2⟩ := hax1.len
        have x3 := hax1.one
        have x4 := hax1.out
        have hxok := hok j
        obtain ⟨hwa, hwb⟩ := hwL j hj
        have hnx : (ls j).length ≤ 1048576 ∧ tot' w_RR (ls j) ≤ 1048576 := by
          rw [hls]; simp only
          split
          · omega
          · split <;> omega
        have hlj : wrL SQ ls (j + 1) = wrRs (wrL SQ ls j) (ls j) := rfl
        rw [hlj] at hκ
        generalize wrL SQ ls j = SJ at *
        generalize ls j = xs at *
        simp -implicitDefEqProofs only [bU, reduceIte, Nat.reduceEqDiff, reduceCtorEq, implies_true, forall_const, eq_self, Nat.reduceAdd, Nat.reduceLT, bne_self_eq_false, bT, eq_self, true_implies, false_implies, forall_const, if_true, if_false, Int.reduceToNat, Nat.reduceSub, Int.reduceLE, bV, Nat.reduceAdd, Nat.reduceLT, Nat.reduceLeDiff, Nat.reduceLeDiff, r1, r3, r6, r7]
        refine exec_loop (fun n e M => ∃ (i : Nat) (H' : AH) (L : List Lv) (g : Nat), i ≤ xs.length ∧ n = xs.length - i ∧ look e 1 = .la 1 0 0 0 ∧ look e 3 = .pv H.n 0 ∧ look e 6 = .i .i64 j ∧ look e 7 = ax ∧ look e 8 = .i .i64 i ∧ M = ⟨L, g, H'⟩ ∧ keepL [1, 3, 6, 7, 8] L = [⟨1, 0, 0, [mV m.h q a b c]⟩] ∧ WS H' H.n H.n (wrRs SJ (xs.take i)) ∧ Ext H H') ?_ (n := xs.length)
          ⟨0, H', _, _, by omega, by omega, r1, r3, r6, r7, rfl, rfl, hL', hw, he⟩
        clear r1 r3 r6 r7 hL'
        rintro n e M ⟨i, H2, L, g, hi, rfl, q1, q3, q6, q7, q8, rfl, hL, hw, he⟩
        unfold mV at hL
        by_cases hlt : (i : Int) < xs.length
        · have hil : i < xs.length := by omega
          obtain ⟨b1, b2', b3, b4⟩ := Sx.at' (hax H2 he) hil
          have hmem := List.getElem_mem hil
          have hwq := tot_mem' (w := w_RR) hmem
          simp only [w_RR] at hwq
          have hwf := wrRs_wf (xs.take i) SJ (fun x hx => hxok x (List.mem_of_mem_take hx)) hwa
          have htk := tot_take w_RR xs i
          have hlen : (xs.take i).length ≤ i := by simp; omega
          obtain ⟨v, H3, k3, rfl, s3, w3⟩ := hR H.n H.n _ xs[i] H2 hw hwf.1 (hxok _ hmem) (by omega)
          have w8 : IntKind.i64.wrap ((i : Int) + 1) = ((i + 1 : Nat) : Int) := by rw [w64 (by omega) (by omega)]; rfl
          simp only [show eR.z = 5 from rfl, show eR.v xs[i] = AV.ag [.s xs[i].o, .i .i64 xs[i].t, .i .i64 xs[i].c, .i .i64 xs[i].ttl, .s xs[i].d] from rfl] at b1 b3 b4 k3
          simp -implicitDefEqProofs only [bU, reduceIte, Nat.reduceEqDiff, reduceCtorEq, implies_true, forall_const, eq_self, Nat.reduceAdd, Nat.reduceLT, bne_self_eq_false, bT, eq_self, true_implies, false_implies, forall_const, if_true, if_false, Int.reduceToNat, Nat.reduceSub, Int.reduceLE, bV, Nat.reduceAdd, Nat.reduceLT, Nat.reduceLeDiff, Nat.reduceLeDiff, q1, q3, q6, q7, q8, hL, x1, x2, x3, x4, hlt, b1, b2', b3, b4, toNat_nat, k3, w8]
          exact ⟨xs.length - (i + 1), by omega, i + 1, H3, _, _, by omega, rfl, rfl, rfl, rfl, by rw [wrRs_step hil]; exact s3, (w3.bl hw.lt.2 hw.fp).ext he (Nat.le_refl _)⟩
        · have hie : i = xs.length := by omega
          rw [hie, List.take_length] at hw
          simp -implicitDefEqProofs only [bU, reduceIte, Nat.reduceEqDiff, reduceCtorEq, implies_true, forall_const, eq_self, Nat.reduceAdd, Nat.reduceLT, bne_self_eq_false, bT, eq_self, true_implies, false_implies, forall_const, if_true, if_false, Int.reduceToNat, Nat.reduceSub, Int.reduceLE, bV, Nat.reduceAdd, Nat.reduceLT, Nat.reduceLeDiff, Nat.reduceLeDiff, q1, q3, q6, q7, q8, hL, x1, x2, hlt]
          exact hκ _ _ _ _ rfl rfl rfl rfl hw he
      have fin : ∀ e2 L2 g2 H2, look e2 1 = .la 1 0 0 0 → look e2 3 = .pv H.n 0 → look e2 6 = .i .i64 ((j + 1 : Nat) : Int) → keepL [1, 3, 6] L2 = [⟨1, 0, 0, [mV m.h q a b c]⟩] → WS H2 H.n H.n (wrL SQ ls (j + 1)) → Ext H H2 → ∃ k, k < 3 - j ∧ ∃ (j : Nat) (H' : AH) (L : List Lv) (g : Nat), j ≤ 3 ∧ k = 3 - j ∧ look e2 1 = .la 1 0 0 0 ∧ look e2 3 = .pv H.n 0 ∧ look e2 6 = .i .i64 j ∧ (⟨L2, g2, H2⟩ : Mem) = ⟨L, g, H'⟩ ∧ keepL [1, 3, 6] L = [⟨1, 0, 0, [mV m.h q a b c]⟩] ∧ WS H' H.n H.n (wrL SQ ls j) ∧ Ext H H' :=
        fun e2 L2 g2 H2 r1 r3 r6 r7 r8 r9 => ⟨3 - (j + 1), by omega, j + 1, H2, L2, g2, by omega, rfl, r1, r3, r6, rfl, r7, r8, r9⟩
      unfold mV at fin key
      obtain ⟨B, hB⟩ : ∃ B, B = sAt c_spec_l04Write.s [1, 1, 1, 1, 1, 0, 1, 2, 2, 1, 0, 2, 1, 1] := ⟨_, rfl⟩
      have hB2 := hB
      simp only [c_spec_l04Write, sAt] at hB2
      rw [← hB2]
      obtain rfl | rfl | rfl : j = 0 ∨ j = 1 ∨ j = 2 := by omega
      · simp -implicitDefEqProofs only [bU, reduceIte, Nat.reduceEqDiff, reduceCtorEq, implies_true, forall_const, eq_self, Nat.reduceAdd, Nat.reduceLT, bne_self_eq_false, bT, eq_self, true_implies, false_implies, forall_const, if_true, if_false, Int.reduceToNat, Nat.reduceSub, Int.reduceLE, bV, Nat.reduceAdd, Nat.reduceLT, Nat.reduceLeDiff, Nat.reduceLeDiff, q1, q3, q6, hL, o1, o2, o3, o4, y1, y2, y3, y4, Int.natCast_zero, Int.reduceLT, Int.reduceEq]
        refine key a _ _ _ _ B hB rfl rfl rfl rfl rfl (fun H2 h2 => by rw [hls]; exact Sl.ext h.ha h2) fun e2 L2 g2 H2 r1 r3 r6 r7 r8 r9 => ?_
        simp -implicitDefEqProofs only [bU, reduceIte, Nat.reduceEqDiff, reduceCtorEq, implies_true, forall_const, eq_self, Nat.reduceAdd, Nat.reduceLT, bne_self_eq_false, bT, eq_self, true_implies, false_implies, forall_const, if_true, if_false, Int.reduceToNat, Nat.reduceSub, Int.reduceLE, bV, Nat.reduceAdd, Nat.reduceLT, Nat.reduceLeDiff, Nat.reduceLeDiff, r1, r3, r6, r7, w9]
        exact ⟨3 - (0 + 1), by omega, 0 + 1, H2, _, _, by omega, rfl, rfl, rfl, r7, r8, r9⟩
      · simp -implicitDefEqProofs only [bU, reduceIte, Nat.reduceEqDiff, reduceCtorEq, implies_true, forall_const, eq_self, Nat.reduceAdd, Nat.reduceLT, bne_self_eq_false, bT, eq_self, true_implies, false_implies, forall_const, if_true, if_false, Int.reduceToNat, Nat.reduceSub, Int.reduceLE, bV, Nat.reduceAdd, Nat.reduceLT, Nat.reduceLeDiff, Nat.reduceLeDiff, q1, q3, q6, hL, o1, o2, o3, o4, y1, y2, y3, y4, show ((1 : Nat) : Int) = 1 from rfl, Int.reduceLT, Int.reduceEq]
        refine key b _ _ _ _ B hB rfl rfl rfl rfl rfl (fun H2 h2 => by rw [hls]; exact Sl.ext h.hb h2) fun e2 L2 g2 H2 r1 r3 r6 r7 r8 r9 => ?_
        simp -implicitDefEqProofs only [bU, reduceIte, Nat.reduceEqDiff, reduceCtorEq, implies_true, forall_const, eq_self, Nat.reduceAdd, Nat.reduceLT, bne_self_eq_false, bT, eq_self, true_implies, false_implies, forall_const, if_true, if_false, Int.reduceToNat, Nat.reduceSub, Int.reduceLE, bV, Nat.reduceAdd, Nat.reduceLT, Nat.reduceLeDiff, Nat.reduceLeDiff, r1, r3, r6, r7, w9]
        exact ⟨3 - (1 + 1), by omega, 1 + 1, H2, _, _, by omega, rfl, rfl, rfl, r7, r8, r9⟩
      · simp -implicitDefEqProofs only [bU, reduceIte, Nat.reduceEqDiff, reduceCtorEq, implies_true, forall_const, eq_self, Nat.reduceAdd, Nat.reduceLT, bne_self_eq_false, bT, eq_self, true_implies, false_implies, forall_const, if_true, if_false, Int.reduceToNat, Nat.reduceSub, Int.reduceLE, bV, Nat.reduceAdd, Nat.reduceLT, Nat.reduceLeDiff, Nat.reduceLeDiff, q1, q3, q6, hL, o1, o2, o3, o4, y1, y2, y3, y4, show ((2 : Nat) : Int) = 2 from rfl, Int.reduceLT, Int.reduceEq]
        refine key c _ _ _ _ B hB rfl rfl rfl rfl rfl (fun H2 h2 => by rw [hls]; exact Sl.ext h.hc h2) fun e2 L2 g2 H2 r1 r3 r6 r7 r8 r9 => ?_
        simp -implicitDefEqProofs only [bU, reduceIte, Nat.reduceEqDiff, reduceCtorEq, implies_true, forall_const, eq_self, Nat.reduceAdd, Nat.reduceLT, bne_self_eq_false, bT, eq_self, true_implies, false_implies, forall_const, if_true, if_false, Int.reduceToNat, Nat.reduceSub, Int.reduceLE, bV, Nat.reduceAdd, Nat.reduceLT, Nat.reduceLeDiff, Nat.reduceLeDiff, r1, r3, r6, r7, w9]
        exact ⟨3 - (2 + 1), by omega, 2 + 1, H2, _, _, by omega, rfl, rfl, rfl, r7, r8, r9⟩
    · have hj3e : j = 3 := by omega
      subst hj3e
      rw [← hfin] at hw
      obtain ⟨⟨bv, pl, t1, t2, t3, t4, t5, t6, t7, t8⟩, -⟩ := hw
      obtain ⟨c1, c2⟩ := t1.ld (off := 0) (by simp)
      have c2' := fun (L : List Lv) (g : Nat) => (c2 L g).trans (show _ = bv from rfl)
      have ob := t2.sl.out
      simp -implicitDefEqProofs only [bU, reduceIte, Nat.reduceEqDiff, reduceCtorEq, implies_true, forall_const, eq_self, Nat.reduceAdd, Nat.reduceLT, bne_self_eq_false, bT, eq_self, true_implies, false_implies, forall_const, if_true, if_false, Int.reduceToNat, Nat.reduceSub, Int.reduceLE, bV, Nat.reduceAdd, Nat.reduceLT, Nat.reduceLeDiff, Nat.reduceLeDiff, pv_faC, pv_faV, q1, q3, q6, hL, hj3, c1, c2', ob, endK, rsC, rsV, resV]
      exact ⟨he, t2, t7⟩
end
end Go.Vm

/- The program's writer of messages: its state, texts and names. -/
namespace Go.Vm
set_option linter.unusedVariables false
set_option linter.unusedSimpArgs false
theorem fnd_mp (n : List UInt8) : ∀ es : List (List UInt8 × Nat), mpFind (encMp es) (.s n) = (fnd es n).map fun p => .i .i64 (p : Nat)
  | [] => rfl
  | e :: r => by
    simp only [encMp, List.map_cons, mpFind, AV.cells, cellsEq, cellEq, Bool.and_true, decide_eq_true_eq, fnd]
    by_cases h : n = e.1
    · rw [if_pos h, if_pos h.symm]; rfl
    · rw [if_neg h, if_neg fun hh => h hh.symm]; exact fnd_mp n r
theorem put_mp {n : List UInt8} {p : Nat} : ∀ {es : List (List UInt8 × Nat)}, fnd es n = none → mpPut (encMp es) (.s n) (.i .i64 (p : Nat)) = encMp (es ++ [(n, p)])
  | [], _ => rfl
  | e :: r, h => by
    simp only [fnd] at h
    by_cases he : e.1 = n
    · rw [if_pos he] at h; cases h
    · rw [if_neg he] at h
      simp only [encMp, List.map_cons, List.cons_append, mpPut, AV.cells, cellsEq, cellEq, Bool.and_true, decide_eq_true_eq]
      rw [if_neg fun hh => he hh.symm]
      congr 1
      exact put_mp h
theorem encMp_key (es : List (List UInt8 × Nat)) (n : List UInt8) : keyOk [.s] (encMp es) (.s n) := ⟨.s, rfl, rfl, fun e he => by
  obtain ⟨x, -, rfl⟩ := List.mem_map.1 he
  rfl⟩
theorem EncS.fp {H : AH} {n0 pid : Nat} {s : EncSt} (h : EncS H n0 pid s) : ∀ i, Fp H pid i → n0 ≤ i := by
  obtain ⟨⟨bv, mid, h1, h2, h3, h4, h5, h6, h7, h8, h9⟩, hge⟩ := h
  rintro i (rfl | ⟨cs, hcs, a, ha, hi⟩)
  · exact hge
  · have := hcs.same h1
    subst this
    simp only [List.mem_cons, List.not_mem_nil, or_false] at ha
    rcases ha with rfl | rfl
    · exact h9 i (by rw [← Mn.ids h2]; exact hi)
    · simp only [idsA, List.mem_singleton] at hi; omega
theorem EncS.apW {H : AH} {n0 pid : Nat} {s : EncSt} (h : EncS H n0 pid s) {y : AV} {t : List UInt8} (hl : s.1.length + t.length ≤ 1099511627776) : ∃ bv mid, Obj1 H pid [bv, .mp mid] ∧ Mb H bv s.1 ∧
    ∀ (L : List Lv) (g : Nat), (srcV ⟨L, g, H⟩ y = encB t ∧ srcC ⟨L, g, H⟩ 1 y) → apC ⟨L, g, H⟩ 1 1 y bv ∧ ∃ bv' H1, apV ⟨L, g, H⟩ y bv = bv' ∧ apM ⟨L, g, H⟩ 1 y bv = ⟨L, g, H1⟩ ∧ bv'.outs = true ∧ bv'.cells = [bv'] ∧
      (∀ (L : List Lv) (g : Nat), stC ⟨L, g, H1⟩ bv' (.pv pid 0)) ∧ ∃ H2, (∀ (L : List Lv) (g : Nat), stM ⟨L, g, H1⟩ bv' (.pv pid 0) = ⟨L, g, H2⟩) ∧ EncS H2 n0 pid (wrTxt s t) ∧ Wk pid H H2 := by
  obtain ⟨⟨bv, mid, h1, h2, h3, h4, h5, h6, h7, h8, h9⟩, hge⟩ := h
  refine ⟨bv, mid, h1, h2, fun L g hy => ?_⟩
  obtain ⟨a1, bv', H1, a2, a3, a4, a5, a6, H2, a7, a8, a9, b1, b2, b3, b4⟩ := fld_ap (by' := 1) h1 (off := 0) (by simp) h2 h5 rfl (by simp; omega) hy
  refine ⟨a1, bv', H1, a2, a3, a4, a5, a6, H2, a7, ⟨⟨bv', mid, a8, ?_, by omega, (b2 mid h3 h6 h7).trans h4, fun hh => ?_, h6, fun hh => ?_, h8, fun i hi => ?_⟩, hge⟩, b4⟩
  · show Mn H2 1 bv' (encB (s.1 ++ t)); rw [enc_app]; exact a9
  · rcases b3 _ hh with hh | hh
    · exact h5 hh
    · have := h1.lt; omega
  · rcases b3 _ hh with hh | hh
    · exact h7 hh
    · omega
  · rcases b3 _ hi with hh | hh
    · exact h9 i hh
    · have := h1.lt; omega
def T_putW (C : Tab) (f : Nat) : Prop := ∀ (n0 pid : Nat) (s : EncSt) (t : List UInt8) (H : AH), EncS H n0 pid s → s.1.length + t.length ≤ 1099511627776 → ∃ v H', C f [.pv pid 0, .s t] H = some (v, H') ∧ v = .tp [] ∧ EncS H' n0 pid (wrTxt s t) ∧ Wk pid H H'
def T_ename (C : Tab) (f : Nat) : Prop := ∀ (n0 pid : Nat) (s : EncSt) (n : List UInt8) (H : AH), EncS H n0 pid s → nearS s → (labGo n).isSome = true → s.1.length + n.length ≤ 1099511000000 →
  ∃ v H', C f [.pv pid 0, .s n] H = some (v, H') ∧ v = .tp [] ∧ EncS H' n0 pid (wrName s n) ∧ Wk pid H H'
theorem ptr_hi {p : Nat} (hp : p ≤ 16383) : bitw .or .u8 (IntKind.u8.wrap ((p / 256 : Nat) : Int)) 192 = ((UInt8.ofNat ((49152 + p) / 256)).toNat : Int) := by
  have hq : p / 256 ≤ 63 := by omega
  have e1 : IntKind.u8.wrap ((p / 256 : Nat) : Int) = ((p / 256 : Nat) : Int) := by rw [IntKind.wrap_u8]; omega
  have e2 : (49152 + p) / 256 = 192 + p / 256 := by omega
  rw [e1, e2]
  generalize p / 256 = x at hq ⊢
  have e3 : x ||| 192 = 192 + x := by
    have := Nat.two_pow_add_eq_or_of_lt (i := 6) (b := x) (by omega) 3
    rw [Nat.or_comm]; exact this.symm
  unfold bitw
  simp only
  rw [show IntKind.u8.bits = 8 from rfl, show (192 : Int) = ((192 : Nat) : Int) from rfl, BitVec.ofInt_natCast, BitVec.ofInt_natCast, BitVec.toNat_or, BitVec.toNat_ofNat, BitVec.toNat_ofNat, Nat.mod_eq_of_lt (by omega), Nat.mod_eq_of_lt (by omega), e3, IntKind.wrap_u8, UInt8.toNat_ofNat']
  omega
theorem ptr_lo {p : Nat} : IntKind.u8.wrap (p : Int) = ((UInt8.ofNat (49152 + p)).toNat : Int) := by
  rw [u8w, UInt8.toNat_ofNat', UInt8.toNat_ofNat']
  omega
section
variable {C : Tab}
theorem r_putW {n0 pid : Nat} {s : EncSt} {t : List UInt8} {H : AH} (h : EncS H n0 pid s) (hl : s.1.length + t.length ≤ 1099511627776) :
    Runs C c_impl_encoder_put [.pv pid 0, .s t] H fun v H' => v = .tp [] ∧ EncS H' n0 pid (wrTxt s t) ∧ Wk pid H H' := by
  unfold Runs c_impl_encoder_put
  obtain ⟨bv, mid, h1, h2, hap⟩ := h.apW (y := .s t) (t := t) hl
  obtain ⟨a1, a2⟩ := h1.ld (off := 0) (by simp)
  have a2' := fun (L : List Lv) (g : Nat) => (a2 L g).trans (show _ = bv from rfl)
  obtain ⟨p1, bv', H1, p2, p3, p4, p5, p6, H2, p7, p8, p9⟩ := hap [] 0 ⟨rfl, rfl⟩
  simp -implicitDefEqProofs only [bU, reduceIte, Nat.reduceEqDiff, reduceCtorEq, implies_true, forall_const, eq_self, Nat.reduceAdd, Nat.reduceLT, bne_self_eq_false, bT, eq_self, true_implies, false_implies, forall_const, if_true, if_false, Int.reduceToNat, Nat.reduceSub, Int.reduceLE, Nat.zero_add, Nat.add_zero, pv_faC, pv_faV, a1, a2', p1, p2, p3, p4, p5, p6, p7, endK, rsC, rsV, resV]
  exact ⟨p8, p9⟩
set_option maxHeartbeats 1000000 in
theorem r_ename {n0 pid : Nat} {s : EncSt} {n : List UInt8} {H : AH} (h : EncS H n0 pid s) (hnear : nearS s) (hn : (labGo n).isSome = true) (hl1 : s.1.length + n.length ≤ 1099511000000) :
    Runs C c_impl_encoder_name [.pv pid 0, .s n] H fun v H' => v = .tp [] ∧ EncS H' n0 pid (wrName s n) ∧ Wk pid H H' := by
  unfold Runs c_impl_encoder_name
  simp -implicitDefEqProofs only [bU, reduceIte, Nat.reduceEqDiff, reduceCtorEq, implies_true, forall_const, eq_self, Nat.reduceAdd, Nat.reduceLT, bne_self_eq_false, bT, eq_self, true_implies, false_implies, forall_const, if_true, if_false, Int.reduceToNat, Nat.reduceSub, Int.reduceLE]
  refine exec_loop (fun m e M => ∃ (n' : List UInt8) (s' : EncSt) (H' : AH) (L : List Lv) (g : Nat), n'.length ≤ n.length ∧ m = n'.length ∧ look e 0 = .pv pid 0 ∧ look e 1 = .s n' ∧ M = ⟨L, g, H'⟩ ∧ EncS H' n0 pid s' ∧ Wk pid H H' ∧ nearS s' ∧ (labGo n').isSome = true ∧ s'.1.length + n'.length ≤ 1099511000000 ∧ wrName s n = wrName s' n') ?_ (n := n.length)
    ⟨n, s, H, _, _, by omega, rfl, rfl, rfl, rfl, h, .refl _ _, hnear, hn, hl1, rfl⟩
  clear h hnear hn hl1
  rintro m e M ⟨n', s', H', L, g, hi, rfl, q0, q1, rfl, h, hb, hnear, hn, hl1, hw⟩
  rw [hw]
  by_cases hroot : n' = [0]
  · subst hroot
    have hw0 : wrName s' [0] = wrTxt s' [0] := by rw [wrName, if_pos rfl]; rfl
    rw [hw0]
    obtain ⟨bv, mid, h1, h2, hap⟩ := h.apW (y := .ll 73 g 1 1) (t := [0]) (by simp; omega)
    obtain ⟨a1, a2⟩ := h1.ld (off := 0) (by simp)
    have a2' := fun (L : List Lv) (g : Nat) => (a2 L g).trans (show _ = bv from rfl)
    obtain ⟨p1, bv', H1, p2, p3, p4, p5, p6, H2, p7, p8, p9⟩ := hap (⟨73, g, 0, [.i .u8 0]⟩ :: dropL (keepL [0, 1] L) 73) (g + 1) lit_src
    have hr : (([0] : List UInt8) = [0]) = True := eq_self _
    simp -implicitDefEqProofs only [bU, reduceIte, Nat.reduceEqDiff, reduceCtorEq, implies_true, forall_const, eq_self, Nat.reduceAdd, Nat.reduceLT, bne_self_eq_false, bT, eq_self, true_implies, false_implies, forall_const, if_true, if_false, Int.reduceToNat, Nat.reduceSub, Int.reduceLE, Nat.zero_add, Nat.add_zero, nc_pv, pv_faC, pv_faV, q0, q1, hr, a1, a2', fillEC, fillE, List.replicate, List.set]
    simp -implicitDefEqProofs only [bU, reduceIte, Nat.reduceEqDiff, reduceCtorEq, implies_true, forall_const, eq_self, Nat.reduceAdd, Nat.reduceLT, bne_self_eq_false, bT, eq_self, true_implies, false_implies, forall_const, if_true, if_false, Int.reduceToNat, Nat.reduceSub, Int.reduceLE, Nat.add_zero, nc_pv, pv_faC, pv_faV, p1, p2, p3, p4, p5, p6, p7, endK, rsC, rsV, resV]
    exact ⟨p8, hb.trans p9⟩
  · match n', hn, hroot, q1, hi, hl1, hw with
    | [], hn, _, _, _, _, _ => rw [labGo] at hn; cases hn
    | c :: r, hn, hroot, q1, hi, hl1, hw =>
      have hroot' : ¬ (c :: r = [0]) := hroot
      rcases lab_cons hn with ⟨rfl, rfl⟩ | ⟨hc0, hcr, hn2⟩
      · exact absurd rfl hroot
      simp only [List.length_cons] at hi hl1
      obtain ⟨⟨bv0, mid0, x1, x2, x3, x4, x5, x6, x7, x8, x9⟩, x10⟩ := id h
      obtain ⟨d1, d2⟩ := x1.ld (off := 1) (by simp)
      have d2' := fun (L : List Lv) (g : Nat) => (d2 L g).trans (show _ = AV.mp mid0 from rfl)
      obtain ⟨d3, d4⟩ := x1.ld (off := 0) (by simp)
      have d4' := fun (L : List Lv) (g : Nat) => (d4 L g).trans (show _ = bv0 from rfl)
      have f3 : mpOk H' (.mp mid0) := by simp only [mpOk, x4]
      have f4 : mpEs H' (.mp mid0) = encMp s'.2 := by simp only [mpEs, x4]
      have f5 := encMp_key s'.2 (c :: r)
      have f6 := fnd_mp (c :: r) s'.2
      cases hf : fnd s'.2 (c :: r) with
      | some p =>
        obtain ⟨x, hx, hxp⟩ := fnd_mem hf
        have hp : p ≤ 16383 := by rw [← hxp]; exact hnear x hx
        have hwr : wrName s' (c :: r) = wrTxt s' (be16 (49152 + p)) := by rw [wrName, if_neg hc0, hf]; rfl
        rw [hwr]
        rw [hf] at f6
        have f6' : mpFind (encMp s'.2) (.s (c :: r)) = some (.i .i64 (p : Nat)) := f6
        have hsh : (p : Int).fdiv (2 ^ (min 8 IntKind.i64.bits)) = ((p / 256 : Nat) : Int) := fdiv_nat p 8
        have u1 := ptr_hi hp
        have u2 := ptr_lo (p := p)
        obtain ⟨bv, mid, h1, h2, hap⟩ := h.apW (y := .ll 30 g 1 2) (t := be16 (49152 + p)) (by simp [be16]; omega)
        have hbe := (h1.same x1)
        simp only [List.cons.injEq, AV.mp.injEq, and_true] at hbe
        obtain ⟨hbe, -⟩ := hbe
        subst hbe
        obtain ⟨p1, bv', H1, p2, p3, p4, p5, p6, H2, p7, p8, p9⟩ := hap (⟨30, g, 0, [.i .u8 (UInt8.ofNat ((49152 + p) / 256)).toNat, .i .u8 (UInt8.ofNat (49152 + p)).toNat]⟩ :: dropL (keepL [0, 1] L) 30) (g + 1) (by simp [srcV, srcC, Mem.getL, Mem.hasL, lookL, be16, encB])
        simp -implicitDefEqProofs only [bU, reduceIte, Nat.reduceEqDiff, reduceCtorEq, implies_true, forall_const, eq_self, Nat.reduceAdd, Nat.reduceLT, bne_self_eq_false, bT, eq_self, true_implies, false_implies, forall_const, if_true, if_false, Int.reduceToNat, Nat.reduceSub, Int.reduceLE, bV, Nat.reduceAdd, Nat.reduceLT, Nat.reduceLeDiff, Nat.reduceLeDiff, Nat.zero_add, Nat.add_zero, nc_pv, pv_faC, pv_faV, lkV, q0, q1, hroot', d1, d2', f3, f4, f5, f6', d3, d4', hsh, u1, u2, Int.reduceToNat, fillEC, fillE, List.replicate, List.set]
        simp -implicitDefEqProofs only [bU, reduceIte, Nat.reduceEqDiff, reduceCtorEq, implies_true, forall_const, eq_self, Nat.reduceAdd, Nat.reduceLT, bne_self_eq_false, bT, eq_self, true_implies, false_implies, forall_const, if_true, if_false, Int.reduceToNat, Nat.reduceSub, Int.reduceLE, Nat.add_zero, nc_pv, pv_faC, pv_faV, p1, p2, p3, p4, p5, p6, p7, endK, rsC, rsV, resV]
        exact ⟨p8, hb.trans p9⟩
      | none =>
        have hwr : wrName s' (c :: r) = wrName (s'.1 ++ c :: r.take c.toNat, if s'.1.length ≤ 16383 then s'.2 ++ [(c :: r, s'.1.length)] else s'.2) (r.drop c.toNat) := by rw [wrName, if_neg hc0, hf]
        rw [hwr]
        rw [hf] at f6
        have f6' : mpFind (encMp s'.2) (.s (c :: r)) = none := f6
        have hcb := c.toNat_lt
        have hc1 : c.toNat ≠ 0 := fun e => hc0 (UInt8.toNat_inj.1 e)
        have w0 := i64b c
        have w1 : IntKind.i64.wrap (1 + (c.toNat : Int)) = ((c.toNat + 1 : Nat) : Int) := by rw [w64 (by omega) (by omega)]; omega
        have z1 : (0 : Int) ≤ ((c.toNat + 1 : Nat) : Int) := by omega
        have z2 : ((c.toNat + 1 : Nat) : Int) ≤ ((r.length + 1 : Nat) : Int) := by omega
        have z3 : (0 : Int) < ((r.length + 1 : Nat) : Int) := by omega
        have e2 : List.take (r.length + 1 - (c.toNat + 1)) (List.drop c.toNat r) = r.drop c.toNat := List.take_of_length_le (by simp <;> omega)
        obtain ⟨l1, l2⟩ := Byt.len x2.sl
        by_cases hs : s'.1.length ≤ 16383
        · have hs' : ((s'.1.length : Nat) : Int) ≤ 16383 := by omega
          simp only [if_pos hs]
          have r1 : mpRw H' (.mp mid0) := by simp only [mpRw, x4]
          have r2 := put_mp (p := s'.1.length) hf
          have r3 : ∀ (L : List Lv) (g : Nat) (es : List (AV × AV)), mpSet ⟨L, g, H'⟩ es (.mp mid0) = ⟨L, g, H'.set mid0 (.map true es)⟩ := fun _ _ _ => rfl
          have h' : EncS (H'.set mid0 (.map true (encMp (s'.2 ++ [(c :: r, s'.1.length)])))) n0 pid (s'.1, s'.2 ++ [(c :: r, s'.1.length)]) :=
            ⟨⟨bv0, mid0, x1.fr (Nat.le_refl _) (set_ne (Ne.symm x6)), Mn.fr x2 (Nat.le_refl _) (fun i hi => set_ne fun e => x7 (e ▸ hi)), x3, set_at, x5, x6, x7, x8, x9⟩, x10⟩
          have hk : Wk pid H' (H'.set mid0 (.map true (encMp (s'.2 ++ [(c :: r, s'.1.length)])))) :=
            .mk' (off := 1) x1 (x1.fr (Nat.le_refl _) (set_ne (Ne.symm x6))) rfl (Nat.le_refl _) (fun i _ _ hi => set_ne (by simpa [idsA] using hi)) fun i hi => .inl hi
          obtain ⟨bv, mid, h1, h2, hap⟩ := h'.apW (y := .s (c :: r.take c.toNat)) (t := c :: r.take c.toNat) (by simp; omega)
          obtain ⟨a1, a2⟩ := h1.ld (off := 0) (by simp)
          have a2' := fun (L : List Lv) (g : Nat) => (a2 L g).trans (show _ = bv from rfl)
          obtain ⟨p1, bv', H1, p2, p3, p4, p5, p6, H2, p7, p8, p9⟩ := hap (keepL [0, 1] L) g ⟨rfl, rfl⟩
          simp -implicitDefEqProofs only [bU, reduceIte, Nat.reduceEqDiff, reduceCtorEq, implies_true, forall_const, eq_self, Nat.reduceAdd, Nat.reduceLT, bne_self_eq_false, bT, eq_self, true_implies, false_implies, forall_const, if_true, if_false, Int.reduceToNat, Nat.reduceSub, Int.reduceLE, bV, Nat.reduceAdd, Nat.reduceLT, Nat.reduceLeDiff, Nat.reduceLeDiff, Nat.zero_add, Nat.add_zero, nc_pv, pv_faC, pv_faV, lkV, q0, q1, hroot', d1, d2', f3, f4, f5, f6', d3, d4', l1, l2, hs', r1, r2, r3]
          simp -implicitDefEqProofs only [bU, reduceIte, Nat.reduceEqDiff, reduceCtorEq, implies_true, forall_const, eq_self, Nat.reduceAdd, Nat.reduceLT, bne_self_eq_false, bT, eq_self, true_implies, false_implies, forall_const, if_true, if_false, Int.reduceToNat, Nat.reduceSub, Int.reduceLE, bV, Nat.reduceAdd, Nat.reduceLT, Nat.reduceLeDiff, Nat.reduceLeDiff, Nat.zero_add, Nat.add_zero, nc_pv, pv_faC, pv_faV, a1, a2', w0, w1, z1, z2, z3, toNat_nat, Int.reduceToNat, p1, p2, p3, p4, p5, p6, p7, e2, Int.le_refl]
          refine ⟨(r.drop c.toNat).length, by simp; omega, r.drop c.toNat, _, H2, _, _, by simp; omega, rfl, rfl, rfl, p8, (hb.trans hk).trans p9, ?_, hn2, ?_, rfl⟩
          · intro e he
            simp only [wrTxt, List.mem_append, List.mem_singleton] at he
            rcases he with he | rfl
            · exact hnear e he
            · exact hs
          · simp [wrTxt]; omega
        · have hs' : ¬ ((s'.1.length : Nat) : Int) ≤ 16383 := by omega
          simp only [if_neg hs]
          obtain ⟨bv, mid, h1, h2, hap⟩ := h.apW (y := .s (c :: r.take c.toNat)) (t := c :: r.take c.toNat) (by simp; omega)
          have hbe := (h1.same x1)
          simp only [List.cons.injEq, AV.mp.injEq, and_true] at hbe
          obtain ⟨hbe, -⟩ := hbe
          subst hbe
          obtain ⟨p1, bv', H1, p2, p3, p4, p5, p6, H2, p7, p8, p9⟩ := hap (keepL [0, 1] L) g ⟨rfl, rfl⟩
          simp -implicitDefEqProofs only [bU, reduceIte, Nat.reduceEqDiff, reduceCtorEq, implies_true, forall_const, eq_self, Nat.reduceAdd, Nat.reduceLT, bne_self_eq_false, bT, eq_self, true_implies, false_implies, forall_const, if_true, if_false, Int.reduceToNat, Nat.reduceSub, Int.reduceLE, bV, Nat.reduceAdd, Nat.reduceLT, Nat.reduceLeDiff, Nat.reduceLeDiff, Nat.zero_add, Nat.add_zero, nc_pv, pv_faC, pv_faV, lkV, q0, q1, hroot', d1, d2', f3, f4, f5, f6', d3, d4', l1, l2, hs', w0, w1, z1, z2, z3, toNat_nat, Int.reduceToNat, p1, p2, p3, p4, p5, p6, p7, e2, Int.le_refl]
          exact ⟨(r.drop c.toNat).length, by simp; omega, r.drop c.toNat, _, H2, _, _, by simp; omega, rfl, rfl, rfl, p8, hb.trans p9, hnear, hn2, by simp [wrTxt]; omega, rfl⟩
end
end Go.Vm

/- The program's writer of messages: a record. -/
namespace Go.Vm
set_option linter.unusedVariables false
set_option linter.unusedSimpArgs false
def wrSp (d : List UInt8) : EncSt → Nat → List (Nat × Nat) → EncSt
  | s, at', [] => wrTxt s (d.drop at')
  | s, at', (a, b) :: r => wrSp d (wrName (wrTxt s ((d.drop at').take (a - at'))) ((d.drop a).take (b - a))) b r
def okSp (d : List UInt8) : Nat → List (Nat × Nat) → Prop
  | at', [] => at' ≤ d.length
  | at', (a, b) :: r => at' ≤ a ∧ a ≤ b ∧ b ≤ d.length ∧ (labGo ((d.drop a).take (b - a))).isSome = true ∧ okSp d b r
theorem wrTxt_nil (s : EncSt) : wrTxt s [] = s := by simp [wrTxt]
theorem wrTxt_txt (s : EncSt) (t u : List UInt8) : wrTxt (wrTxt s t) u = wrTxt s (t ++ u) := by simp [wrTxt]
theorem drop_cat {d p q : List UInt8} {k : Nat} (h : d.drop k = p ++ q) : (d.drop k).take p.length = p ∧ d.drop (k + p.length) = q := by
  rw [← List.drop_drop, h]
  simp
theorem sp_parts {d : List UInt8} : ∀ (ps : List (UInt8 × List UInt8)) (a0 at' : Nat) (s : EncSt), d.drop at' = ps.flatMap Prod.snd → a0 ≤ at' → at' ≤ d.length → wrSp d s a0 (spans ps at') = wrParts (wrTxt s ((d.drop a0).take (at' - a0))) ps
  | [], a0, at', s, h, h0, h1 => by
    have : at' = d.length := by have := congrArg List.length h; simp at this; omega
    simp only [spans, wrSp, wrParts]
    rw [List.take_of_length_le (by simp; omega)]
  | (f, p) :: r, a0, at', s, h, h0, h1 => by
    rw [List.flatMap_cons] at h
    obtain ⟨c1, c2⟩ := drop_cat h
    have hl : at' + p.length ≤ d.length := by
      have := congrArg List.length h
      simp only [List.length_drop, List.length_append] at this
      have : p.length ≤ d.length - at' := by omega
      omega
    by_cases hf : f = 110
    · simp only [spans, wrSp, wrParts, if_pos hf, Nat.add_sub_cancel_left, c1]
      rw [sp_parts r _ _ _ c2 (Nat.le_refl _) hl, Nat.sub_self, List.take_zero, wrTxt_nil]
    · simp only [spans, wrParts, if_neg hf]
      rw [sp_parts r _ _ _ c2 (by omega) hl, wrTxt_txt]
      congr 2
      rw [show at' + p.length - a0 = (at' - a0) + p.length by omega, List.take_add, List.drop_drop, show a0 + (at' - a0) = at' by omega, c1]
theorem sp_ok {d : List UInt8} : ∀ (ps : List (UInt8 × List UInt8)) (a0 at' : Nat), (∀ p, p ∈ ps → p.1 = 110 → (labGo p.2).isSome = true ∧ p.2.length ≤ 255) → d.drop at' = ps.flatMap Prod.snd → a0 ≤ at' → at' ≤ d.length → okSp d a0 (spans ps at')
  | [], a0, at', _, h, h0, h1 => by simp only [spans, okSp]; omega
  | (f, p) :: r, a0, at', hp, h, h0, h1 => by
    rw [List.flatMap_cons] at h
    obtain ⟨c1, c2⟩ := drop_cat h
    have hl : at' + p.length ≤ d.length := by
      have := congrArg List.length h
      simp only [List.length_drop, List.length_append] at this
      have : p.length ≤ d.length - at' := by omega
      omega
    by_cases hf : f = 110
    · simp only [spans, if_pos hf, okSp, Nat.add_sub_cancel_left, c1]
      exact ⟨h0, by omega, hl, (hp (f, p) (by simp) hf).1, sp_ok r _ _ (fun q hq => hp q (by simp [hq])) c2 (Nat.le_refl _) hl⟩
    · simp only [spans, if_neg hf]
      exact sp_ok r _ _ (fun q hq => hp q (by simp [hq])) c2 (by omega) hl
theorem spans_len : ∀ (ps : List (UInt8 × List UInt8)) (k : Nat), (spans ps k).length ≤ ps.length
  | [], _ => by simp [spans]
  | (f, p) :: r, k => by
    simp only [spans]
    split
    · have := spans_len r (k + p.length); simp; omega
    · have := spans_len r (k + p.length); simp; omega
theorem patch_eq {n : Nat} : ∀ {b : List UInt8} {lo : Nat}, lo + 2 ≤ b.length → b.take lo ++ be16 n ++ b.drop (lo + (be16 n).length) = patch b (lo + 2) n := by
  intro b lo h
  have e : (be16 n).length = 2 := rfl
  rw [e]
  unfold patch
  rw [Nat.add_sub_cancel, show lo + 2 - 1 = lo + 1 from rfl]
  induction lo generalizing b with
  | zero =>
    match b, h with
    | x :: y :: r, _ => rfl
  | succ k ih =>
    match b, h with
    | x :: r, h =>
      have := ih (b := r) (by simp at h; omega)
      rw [show k + 1 + 2 = (k + 2) + 1 by omega]
      simp only [List.take_succ_cons, List.cons_append, List.drop_succ_cons, List.set_cons_succ, this]
def T_erec (C : Tab) (f : Nat) : Prop := ∀ (H0 : AH) (pid : Nat) (s : EncSt) (r : Rr) (H : AH), FormsOK H0 → Ext H0 H → EncS H H0.n pid s → wfS s → recOkB r = true → s.1.length + r.o.length + r.d.length ≤ 1099510000000 → ∃ v H', C f [.pv pid 0, eR.v r] H = some (v, H') ∧ v = .tp [] ∧ EncS H' H0.n pid (wrRec s r) ∧ Wk pid H H'
theorem EncS.cpW {H6 H7 : AH} {n0 pid lo : Nat} {s : EncSt} {t : List UInt8} (h : EncS H6 n0 pid s) (he : Ext H6 H7) (hlo : lo + t.length ≤ s.1.length) (ht : t ≠ []) : ∃ bv, (∀ (L : List Lv) (g : Nat), ldC ⟨L, g, H6⟩ none (.pv pid 0)) ∧ (∀ (L : List Lv) (g : Nat), ldX ⟨L, g, H6⟩ none (.pv pid 0) = bv) ∧ lenV bv = .i .i64 s.1.length ∧ lenC bv ∧ slZ H6 1 bv ∧ slC (lo : Int) (s.1.length : Int) bv ∧
    (∀ (L : List Lv) (g : Nat), ldC ⟨L, g, H7⟩ none (.pv pid 0)) ∧ (∀ (L : List Lv) (g : Nat), ldX ⟨L, g, H7⟩ none (.pv pid 0) = bv) ∧ slZ H7 1 bv ∧ (∀ (L : List Lv) (g : Nat), cpC ⟨L, g, H7⟩ 1 (.s t) (slV lo s.1.length bv)) ∧
    ∃ H8, (∀ (L : List Lv) (g : Nat), cpM ⟨L, g, H7⟩ (.s t) (slV lo s.1.length bv) = ⟨L, g, H8⟩) ∧ EncS H8 n0 pid (s.1.take lo ++ t ++ s.1.drop (lo + t.length), s.2) ∧ Wk pid H7 H8 := by
  obtain ⟨⟨bv, mid, h1, h2, h3, h4, h5, h6, h7, h8, h9⟩, hge⟩ := h
  obtain ⟨a1, a2⟩ := h1.ld (off := 0) (by simp)
  have h17 := h1.ext he
  obtain ⟨c1, c2⟩ := h17.ld (off := 0) (by simp)
  obtain ⟨l1, l2⟩ := Byt.len h2.sl
  have m7 : Mb H7 bv s.1 := Mn.ext h2 he
  obtain ⟨u1, u2, u3, u4, u5, H8, u6, u7, u8', u9⟩ := m7.cpt (lo := lo) (t := t) hlo ht
  have hpos := List.length_pos_iff.2 ht
  have zl := Sl.ia (z := 1) h2.sl (j := 0) (by omega) (by rw [enc_len]; omega)
  refine ⟨bv, a1, fun L g => (a2 L g).trans rfl, l1, l2, zl.1, u4, c1, fun L g => (c2 L g).trans rfl, u3, u5, H8, u6, ?_, ?_⟩
  · exact ⟨⟨bv, mid, h17.fr (Nat.le_of_eq u8'.symm) (u9 _ h5), u7, by have := he.n; omega, by rw [u9 _ h7, he.at' _ h3]; exact h4, h5, h6, h7, h8, h9⟩, hge⟩
  · exact .mk' (off := 0) h17 (h17.fr (Nat.le_of_eq u8'.symm) (u9 _ h5)) rfl (Nat.le_of_eq u8'.symm) (fun i _ _ hi => u9 i fun hh => hi (idA_ids hh)) fun i hi => .inl hi
theorem lit_spL (x : Nat × Nat) : eSp.v x = .ag [.i .i64 (x.1 : Nat), .i .i64 (x.2 : Nat)] := rfl
theorem EncS.keep {H0 H H' : AH} {pid : Nat} {s : EncSt} (h : EncS H H0.n pid s) (he : Ext H0 H) (hw : Wk pid H H') : Ext H0 H' := (hw.bl h.lt.2 h.fp).ext he (Nat.le_refl _)
section
variable {C : Tab}
set_option maxHeartbeats 1000000 in
theorem r_erec {H0 : AH} {pid : Nat} {s : EncSt} {r : Rr} {H : AH} (hN : T_ename C n_impl_encoder_name) (hP : T_p16 C n_impl_p16) (hP4 : T_p32 C n_impl_p32) (hT : T_putW C n_impl_encoder_put) (hG : T_hasP C n_impl_hasPointers) (hD : T_DataNames C n_impl_DataNames)
    (hF : FormsOK H0) (he0 : Ext H0 H) (h : EncS H H0.n pid s) (hs : wfS s) (hq : recOkB r = true) (hl : s.1.length + r.o.length + r.d.length ≤ 1099510000000) :
    Runs C c_impl_encoder_record [.pv pid 0, eR.v r] H fun v H' => v = .tp [] ∧ EncS H' H0.n pid (wrRec s r) ∧ Wk pid H H' := by
  have hr := recOk_iff hq
  obtain ⟨wa, wb, wc, wd, we, wf⟩ := wrRec0_wf hr hs
  obtain ⟨v1, H1, k1, rfl, s1, b1⟩ := hN H0.n pid s r.o H h hs.near hr.o.1 (by omega)
  obtain ⟨H2, k2, e2⟩ := hP r.t.toNat H1 (by have := hr.t; omega)
  obtain ⟨H3, k3, e3⟩ := hP r.c.toNat H2 (by have := hr.c; omega)
  obtain ⟨v4, H4, k4, rfl, e4⟩ := hP4 r.ttl.toNat H3 (by have := hr.ttl; omega)
  rw [Int.toNat_of_nonneg hr.t.1] at k2
  rw [Int.toNat_of_nonneg hr.c.1] at k3
  rw [Int.toNat_of_nonneg hr.ttl.1] at k4
  have s4 := s1.ext ((e2.trans e3).trans e4)
  obtain ⟨v5, H5, k5, rfl, s5, b5⟩ := hT H0.n pid (wrName s r.o) (recH r) H4 s4 (by simp only [wrTxt, List.length_append] at wc we; omega)
  have cap1 : (be16 r.t.toNat).length + (be16 r.c.toNat).length ≤ 9223372036854775807 := by simp [be16]
  have cap2 : (be16 r.t.toNat ++ be16 r.c.toNat).length + (be32 r.ttl.toNat).length ≤ 9223372036854775807 := by simp [be16, be32]
  have cap3 : (be16 r.t.toNat ++ be16 r.c.toNat ++ be32 r.ttl.toNat).length + 2 ≤ 9223372036854775807 := by simp [be16, be32]
  have hrh : be16 r.t.toNat ++ be16 r.c.toNat ++ be32 r.ttl.toNat ++ [0, 0] = recH r := rfl
  have b15 : Wk pid H H5 := (b1.trans (.of_ext ((e2.trans e3).trans e4) s1.lt.1)).trans b5
  have e05 := h.keep he0 b15
  obtain ⟨⟨bv5, mid5, o5, m5, x51, x52, x53, x54, x55, x56, x57⟩, -⟩ := id s5
  obtain ⟨c1, c2⟩ := o5.ld (off := 0) (by simp)
  have c2' := fun (L : List Lv) (g : Nat) => (c2 L g).trans (show _ = bv5 from rfl)
  obtain ⟨l1, l2⟩ := Byt.len m5.sl
  generalize hF1 : wrTxt (wrName s r.o) (recH r) = S1 at *
  generalize hfr : S1.1.length = from' at *
  obtain ⟨ro, rt, rc, rttl, rd⟩ := r
  simp only at *
  have hdl : rd.length ≤ 65535 := by
    rcases hr.d with h0 | ⟨-, h1, -⟩
    · simp only at h0; rw [h0]; simp
    · exact h1
  have fin : ∀ (H6 : AH) (S2 : EncSt), EncS H6 H0.n pid S2 → Wk pid H H6 → wrRec0 s ⟨ro, rt, rc, rttl, rd⟩ = S2 → ∃ bv n' H7, C n_impl_p16 [.i .i64 ((n' : Nat) : Int)] H6 = some (.s (be16 n'), H7) ∧ (∀ (L : List Lv) (g : Nat), ldC ⟨L, g, H6⟩ none (.pv pid 0)) ∧ (∀ (L : List Lv) (g : Nat), ldX ⟨L, g, H6⟩ none (.pv pid 0) = bv) ∧ lenV bv = .i .i64 S2.1.length ∧ lenC bv ∧ slZ H6 1 bv ∧ slC ((from' - 2 : Nat) : Int) (S2.1.length : Int) bv ∧
      (∀ (L : List Lv) (g : Nat), ldC ⟨L, g, H7⟩ none (.pv pid 0)) ∧ (∀ (L : List Lv) (g : Nat), ldX ⟨L, g, H7⟩ none (.pv pid 0) = bv) ∧ slZ H7 1 bv ∧ (∀ (L : List Lv) (g : Nat), cpC ⟨L, g, H7⟩ 1 (.s (be16 n')) (slV (from' - 2) S2.1.length bv)) ∧
      IntKind.i64.wrap ((S2.1.length : Int) - (from' : Int)) = ((n' : Nat) : Int) ∧ IntKind.i64.wrap ((from' : Int) - 2) = ((from' - 2 : Nat) : Int) ∧
      ∃ H8, (∀ (L : List Lv) (g : Nat), cpM ⟨L, g, H7⟩ (.s (be16 n')) (slV (from' - 2) S2.1.length bv) = ⟨L, g, H8⟩) ∧ EncS H8 H0.n pid (wrRec s ⟨ro, rt, rc, rttl, rd⟩) ∧ Wk pid H H8 := by
    intro H6 S2 hw hb hS2
    rw [hS2] at wd wf
    obtain ⟨H7, p1, p2⟩ := hP (S2.1.length - from') H6 (by omega)
    obtain ⟨bv, q1, q2, q3, q4, q5, q6, q7, q8, q9, q10, H8, q11, q12, q13⟩ := hw.cpW (H7 := H7) (lo := from' - 2) (t := be16 (S2.1.length - from')) p2 (by simp [be16]; omega) (by simp [be16])
    refine ⟨bv, S2.1.length - from', H7, p1, q1, q2, q3, q4, q5, q6, q7, q8, q9, q10, by rw [w64 (by omega) (by omega)]; omega, by rw [w64 (by omega) (by omega)]; omega, H8, q11, ?_, (hb.trans (.of_ext p2 hw.lt.1)).trans q13⟩
    have e : wrRec s ⟨ro, rt, rc, rttl, rd⟩ = (S2.1.take (from' - 2) ++ be16 (S2.1.length - from') ++ S2.1.drop (from' - 2 + (be16 (S2.1.length - from')).length), S2.2) := by
      rw [patch_eq (by omega), show from' - 2 + 2 = from' by omega]
      simp only [wrRec, hF1, hfr, hS2]
    rw [e]
    exact q12
  unfold Runs c_impl_encoder_record
  have hgp := fun H => hG rt H
  simp only [Enc.v, eR]
  by_cases hd0 : rd = []
  · obtain ⟨v6, H6, k6, rfl, s6, b6⟩ := hT H0.n pid S1 rd H5 s5 (by omega)
    obtain ⟨bv, n', H7, f0, f1, f2, f3, f4, f5, f6, f7, f8, f9, f10, f11, f12, H8, f13, f21, f22⟩ := fin H6 _ s6 (b15.trans b6) (by rw [wrRec0, if_pos (.inl hd0), hF1])
    subst hd0
    have hd0' : (([] : List UInt8) = []) = True := eq_self _
    simp only [wrTxt, List.append_nil, hfr] at f3 f6 f10 f11 f13
    simp -implicitDefEqProofs only [bU, reduceIte, Nat.reduceEqDiff, reduceCtorEq, implies_true, forall_const, eq_self, Nat.reduceAdd, Nat.reduceLT, bne_self_eq_false, bT, eq_self, true_implies, false_implies, forall_const, if_true, if_false, Int.reduceToNat, Nat.reduceSub, Int.reduceLE, bV, Nat.reduceAdd, Nat.reduceLT, Nat.reduceLeDiff, Nat.reduceLeDiff, nc_pv, pv_faC, pv_faV, lgAt, isRd, k1, k2, k3, k4, cap1, cap2, cap3, hrh, k5, c1, c2', l1, l2, hd0', k6, f0, f1, f2, f3, f4, f5, f6, f7, f8, f9, f10, f11, f12, f13, toNat_nat, endK, rsC, rsV, resV]
    exact ⟨f21, f22⟩
  · by_cases hp : hasP rt = false
    · rw [hp] at hgp
      obtain ⟨v6, H6, k6, rfl, s6, b6⟩ := hT H0.n pid S1 rd H5 s5 (by omega)
      obtain ⟨bv, n', H7, f0, f1, f2, f3, f4, f5, f6, f7, f8, f9, f10, f11, f12, H8, f13, f21, f22⟩ := fin H6 _ s6 (b15.trans b6) (by rw [wrRec0, if_pos (.inr hp), hF1])
      simp -implicitDefEqProofs only [bU, reduceIte, Nat.reduceEqDiff, reduceCtorEq, implies_true, forall_const, eq_self, Nat.reduceAdd, Nat.reduceLT, bne_self_eq_false, bT, eq_self, true_implies, false_implies, forall_const, if_true, if_false, Int.reduceToNat, Nat.reduceSub, Int.reduceLE, bV, Nat.reduceAdd, Nat.reduceLT, Nat.reduceLeDiff, Nat.reduceLeDiff, nc_pv, pv_faC, pv_faV, lgAt, isRd, k1, k2, k3, k4, cap1, cap2, cap3, hrh, k5, c1, c2', l1, l2, hd0, hgp, k6, f0, f1, f2, f3, f4, f5, f6, f7, f8, f9, f10, f11, f12, f13, toNat_nat, endK, rsC, rsV, resV]
      exact ⟨f21, f22⟩
    · have hp' : hasP rt = true := by simpa using hp
      rw [hp'] at hgp
      rcases hr.d with h0 | ⟨hchk, -, ps, hps⟩
      · exact absurd h0 hd0
      simp only at hps hchk
      obtain ⟨v6, H6, k6, e6, hm, hoi⟩ := hD rt rd H5 (hF.ext e05) (by omega)
      rw [if_pos hchk] at hm
      have hnm : (nmsD rt rd).getD [] = spans ps 0 := by unfold nmsD; rw [hps]; rfl
      rw [hnm] at hm
      obtain ⟨pl1, pl2, pl3⟩ := prs_lab hps
      have hcat : rd.drop 0 = ps.flatMap Prod.snd := by rw [List.drop_zero]; exact pl2
      have hok := sp_ok ps 0 0 pl1 hcat (Nat.le_refl _) (by omega)
      have heq := sp_parts ps 0 0 S1 hcat (Nat.le_refl _) (by omega)
      rw [Nat.sub_zero, List.take_zero, wrTxt_nil] at heq
      have hspl : (spans ps 0).length ≤ 1000 := by
        have h1 := spans_len ps 0
        have h2 : ps.length = (specForm rt).length := by rw [← pl3, List.length_map]
        have := specForm_len rt
        omega
      generalize spans ps 0 = sp at *
      have ho := (Mn.sl hm).out
      obtain ⟨lo1, lo2⟩ := Sx.len (E := eSp) hm.sl
      have s6 := s5.ext e6
      simp -implicitDefEqProofs only [bU, reduceIte, Nat.reduceEqDiff, reduceCtorEq, implies_true, forall_const, eq_self, Nat.reduceAdd, Nat.reduceLT, bne_self_eq_false, bT, eq_self, true_implies, false_implies, forall_const, if_true, if_false, Int.reduceToNat, Nat.reduceSub, Int.reduceLE, bV, Nat.reduceAdd, Nat.reduceLT, Nat.reduceLeDiff, Nat.reduceLeDiff, nc_pv, pv_faC, pv_faV, lgAt, isRd, k1, k2, k3, k4, cap1, cap2, cap3, hrh, k5, c1, c2', l1, l2, hd0, hgp, k6, ho, lo1, lo2]
      refine exec_loop (fun n e M => ∃ (i at' : Nat) (s' : EncSt) (H' : AH) (L : List Lv) (g : Nat), i ≤ sp.length ∧ n = sp.length - i ∧ look e 0 = .pv pid 0 ∧ look e 3 = .la 3 0 0 0 ∧ look e 4 = .i .i64 from' ∧ look e 5 = .i .i64 at' ∧ look e 48 = v6 ∧ look e 49 = .i .i64 sp.length ∧ look e 50 = .i .i64 i ∧ M = ⟨L, g, H'⟩ ∧ keepL [0, 3, 4, 5, 48, 49, 50] L = [⟨3, 0, 0, [eR.v ⟨ro, rt, rc, rttl, rd⟩]⟩] ∧
          EncS H' H0.n pid s' ∧ wfS s' ∧ Wk pid H H' ∧ Sx H' eSp v6 sp ∧ (∀ j, j ∈ idA v6 → ¬ Fp H' pid j) ∧ okSp rd at' (sp.drop i) ∧ wrSp rd S1 0 sp = wrSp rd s' at' (sp.drop i) ∧ at' ≤ rd.length ∧ s'.1.length + (rd.length - at') ≤ from' + rd.length) ?_ (n := sp.length)
        ⟨0, 0, S1, H6, _, _, by omega, by omega, rfl, rfl, rfl, rfl, rfl, rfl, rfl, rfl, rfl, s6, wa, b15.trans (.of_ext e6 s5.lt.1), hm.sl, fun j hj hh => by
          have h1 := hoi j hj
          rcases hh with rfl | ⟨cs, hcs, a, ha, hia⟩
          · have := s5.lt.1; omega
          · have := hcs.same (o5.ext e6)
            subst this
            simp only [List.mem_cons, List.not_mem_nil, or_false] at ha
            rcases ha with rfl | rfl
            · have := Mn.lt m5 j (by rw [← Mn.ids m5]; exact hia); omega
            · simp only [idsA, List.mem_singleton] at hia; omega, hok, rfl, by omega, by omega⟩
      rintro n e M ⟨i, at', s', H', L, g, hi, rfl, q0, q3, q4, q5, q48, q49, q50, rfl, hL, hw, hwf, hb, hsl, hnf, hok', heq', hat, hsz⟩
      simp only [Enc.v, eR] at hL
      have i0 : (0 : Int) ≤ i := by omega
      have a0 : (0 : Int) ≤ at' := by omega
      by_cases hlt : (i : Int) < sp.length
      · have hil : i < sp.length := by omega
        have w9 : IntKind.i64.wrap ((i : Int) + 1) = ((i + 1 : Nat) : Int) := by rw [w64 (by omega) (by omega)]; rfl
        obtain ⟨b1', b2', b3', b4'⟩ := Sx.at' hsl hil
        rw [List.drop_eq_getElem_cons hil] at hok' heq'
        simp only [show eSp.z = 2 from rfl, lit_spL] at b1' b3' b4'
        generalize sp[i] = ab at *
        obtain ⟨sa, sb⟩ := ab
        obtain ⟨t1, t2, t3, t4, t5⟩ := hok'
        simp only [wrSp] at heq'
        simp only at b4'
        have x1 : (at' : Int) ≤ (sa : Int) := by omega
        have x2 : (sa : Int) ≤ (rd.length : Int) := by omega
        have x3 : (0 : Int) ≤ sa := by omega
        have x4 : (sa : Int) ≤ (sb : Int) := by omega
        have x5 : (sb : Int) ≤ (rd.length : Int) := by omega
        obtain ⟨v7, H7, k7, rfl, s7, b7⟩ := hT H0.n pid s' ((rd.drop at').take (sa - at')) H' hw (by simp; omega)
        have hwf7 := wrTxt_wf ((rd.drop at').take (sa - at')) hwf
        have hl7 : (wrTxt s' ((rd.drop at').take (sa - at'))).1.length = s'.1.length + (sa - at') := by simp [wrTxt]; omega
        have hnl : ((rd.drop sa).take (sb - sa)).length = sb - sa := by simp; omega
        obtain ⟨v8, H8, k8, rfl, s8, b8⟩ := hN H0.n pid _ ((rd.drop sa).take (sb - sa)) H7 s7 hwf7.near t4 (by omega)
        obtain ⟨n1, n2, n3⟩ := wrName_wf _ ((rd.drop sa).take (sb - sa)) _ (Nat.le_refl _) t4 hwf7
        have b78 := b7.trans b8
        simp -implicitDefEqProofs only [bU, reduceIte, Nat.reduceEqDiff, reduceCtorEq, implies_true, forall_const, eq_self, Nat.reduceAdd, Nat.reduceLT, bne_self_eq_false, bT, eq_self, true_implies, false_implies, forall_const, if_true, if_false, Int.reduceToNat, Nat.reduceSub, Int.reduceLE, bV, Nat.reduceAdd, Nat.reduceLT, Nat.reduceLeDiff, Nat.reduceLeDiff, nc_pv, pv_faC, pv_faV, q0, q3, q4, q5, q48, q49, q50, hL, hlt, b1', b2', b3', b4', toNat_nat, a0, x1, x2, x3, x4, x5, k7, k8, w9]
        exact ⟨sp.length - (i + 1), by omega, i + 1, sb, _, H8, _, _, by omega, rfl, rfl, rfl, rfl, rfl, s8, n1, hb.trans b78, b78.sl hsl hnf, fun j hj hh => (b78.fp j hh).elim (hnf j hj) fun h2 => by have := hsl.lt j hj; omega, t5, heq', t3, by omega⟩
      · have hie : i = sp.length := by omega
        rw [hie, List.drop_length, wrSp] at heq'
        have x1 : (at' : Int) ≤ (rd.length : Int) := by omega
        have x2 : (rd.drop at').take (rd.length - at') = rd.drop at' := List.take_of_length_le (by simp)
        obtain ⟨v7, H7, k7, rfl, s7, b7⟩ := hT H0.n pid s' (rd.drop at') H' hw (by simp; omega)
        have hfinal : wrRec0 s ⟨ro, rt, rc, rttl, rd⟩ = wrTxt s' (rd.drop at') := by
          rw [wrRec0, if_neg (by simp [hd0, hp']), hF1, hps]
          exact heq.symm.trans heq'
        obtain ⟨bv, n', H9, f0, f1, f2, f3, f4, f5, f6, f7, f8, f9, f10, f11, f12, H10, f13, f21, f22⟩ := fin H7 _ s7 (hb.trans b7) hfinal
        simp -implicitDefEqProofs only [bU, reduceIte, Nat.reduceEqDiff, reduceCtorEq, implies_true, forall_const, eq_self, Nat.reduceAdd, Nat.reduceLT, bne_self_eq_false, bT, eq_self, true_implies, false_implies, forall_const, if_true, if_false, Int.reduceToNat, Nat.reduceSub, Int.reduceLE, bV, Nat.reduceAdd, Nat.reduceLT, Nat.reduceLeDiff, Nat.reduceLeDiff, nc_pv, pv_faC, pv_faV, lgAt, isRd, q0, q3, q4, q5, q48, q49, q50, hL, hlt, a0, x1, x2, toNat_nat, Int.le_refl, k7, f0, f1, f2, f3, f4, f5, f6, f7, f8, f9, f10, f11, f12, f13, endK, rsC, rsV, resV]
        exact ⟨f21, f22⟩
end
end Go.Vm
