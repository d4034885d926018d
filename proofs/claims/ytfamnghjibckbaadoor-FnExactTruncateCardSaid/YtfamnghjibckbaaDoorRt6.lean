import Derived.Test.YtfamnghjibckbaaDoorRt3
import Derived.Test.YtfamnghjibckbaaDoorRt5
import Derived.Test.YtfamnghjibckbaaDoorProg
import Derived.KernelRfl
/- The writer of messages: numbers, names that are names, data of types without a form. -/
namespace Go.Vm
set_option linter.unusedVariables false
set_option linter.unusedSimpArgs false
/-! Rows of bytes at their object. -/
theorem arrB_st {H : AH} {id len j : Nat} {l : List UInt8} (h : H.at' id = .arr true 0 1 (encB l)) (hl : l.length = len) (hj : j < len) (b : UInt8) :
    slZ H 1 (.sl id 0 len) ∧ iaC (j : Int) (.sl id 0 len) ∧ (∀ (L : List Lv) (g : Nat), stC ⟨L, g, H⟩ (.i .u8 b.toNat) (iaV j (.sl id 0 len))) ∧ ∃ H', (∀ (L : List Lv) (g : Nat), stM ⟨L, g, H⟩ (.i .u8 b.toNat) (iaV j (.sl id 0 len)) = ⟨L, g, H'⟩) ∧ H'.at' id = .arr true 0 1 (encB (l.set j b)) ∧ H'.n = H.n ∧ ∀ i, i ≠ id → H'.at' i = H.at' i := by
  have hg := enc_get (l := l) (i := j) (by omega)
  refine ⟨by simp only [slZ, h], ⟨by omega, by omega⟩, fun L g => ?_, H.set id (.arr true 0 1 (encB (l.set j b))), fun L g => ?_, set_at, rfl, fun i hi => set_ne hi⟩
  · simp only [iaV, stC, h, Nat.zero_add, hg]
    exact ⟨trivial, by simp [hl], by simp [hl]; omega, Nat.le_refl _⟩
  · simp only [iaV, stM, h, Nat.zero_add, hg, if_true]
    rw [show setEl (AV.i .u8 (l.getD j 0).toNat) 0 (AV.i .u8 b.toNat) = AV.i .u8 b.toNat from rfl, enc_set]
def be32 (n : Nat) : List UInt8 := [UInt8.ofNat (n / 16777216), UInt8.ofNat (n / 65536), UInt8.ofNat (n / 256), UInt8.ofNat n]
def T_putU32 (C : Tab) (f : Nat) : Prop := ∀ (id : Nat) (l : List UInt8) (n : Nat) (H : AH), H.at' id = .arr true 0 1 (encB l) → l.length = 4 → n < 4294967296 → ∃ v H', C f [.ag [], .sl id 0 4, .i .u32 n] H = some (v, H') ∧ v = .tp [] ∧ H'.at' id = .arr true 0 1 (encB (be32 n)) ∧ H'.n = H.n ∧ ∀ i, i ≠ id → H'.at' i = H.at' i
def T_p32 (C : Tab) (f : Nat) : Prop := ∀ (n : Nat) (H : AH), n < 4294967296 → ∃ v H', C f [.i .i64 n] H = some (v, H') ∧ v = .s (be32 n) ∧ Ext H H'
theorem fdiv_nat (n k : Nat) : (n : Int).fdiv ((2 : Int) ^ k) = ((n / 2 ^ k : Nat) : Int) := by
  rw [Int.fdiv_eq_ediv_of_nonneg _ (Int.le_of_lt (Int.pow_pos (by decide)))]
  norm_cast
section
variable {C : Tab}
theorem r_PutUint32 {id n : Nat} {l : List UInt8} {H : AH} (h : H.at' id = .arr true 0 1 (encB l)) (hl : l.length = 4) (hn : n < 4294967296) :
    Runs C c_binary_bigEndian_PutUint32 [.ag [], .sl id 0 4, .i .u32 n] H fun v H' => v = .tp [] ∧ H'.at' id = .arr true 0 1 (encB (be32 n)) ∧ H'.n = H.n ∧ ∀ i, i ≠ id → H'.at' i = H.at' i := by
  unfold Runs c_binary_bigEndian_PutUint32
  obtain ⟨a, b, c, d, rfl⟩ : ∃ a b c d, l = [a, b, c, d] := by
    match l, hl with
    | [a, b, c, d], _ => exact ⟨a, b, c, d, rfl⟩
  have hs : Sl H 1 (.sl id 0 4) (encB [a, b, c, d]) ∨ True := .inr trivial
  have v24 : (n : Int).fdiv (2 ^ (min 24 IntKind.u32.bits)) = ((n / 16777216 : Nat) : Int) := fdiv_nat n 24
  have v16 : (n : Int).fdiv (2 ^ (min 16 IntKind.u32.bits)) = ((n / 65536 : Nat) : Int) := fdiv_nat n 16
  have v8 : (n : Int).fdiv (2 ^ (min 8 IntKind.u32.bits)) = ((n / 256 : Nat) : Int) := fdiv_nat n 8
  have ld1 : ∀ (L : List Lv) (g : Nat), ldC ⟨L, g, H⟩ none (iaV 3 (.sl id 0 4)) := fun L g => by
    simp only [iaV, ldC, h]
    exact ⟨by simp, by simp, by simp [encB, partFits, AV.cells]⟩
  obtain ⟨a1, a2, a3, H1, a4, a5, a6, a7⟩ := arrB_st h rfl (j := 0) (by simp) (UInt8.ofNat (n / 16777216))
  obtain ⟨b1, b2, b3, H2, b4, b5, b6, b7⟩ := arrB_st a5 rfl (j := 1) (by simp) (UInt8.ofNat (n / 65536))
  obtain ⟨c1, c2, c3, H3, c4, c5, c6, c7⟩ := arrB_st b5 rfl (j := 2) (by simp) (UInt8.ofNat (n / 256))
  obtain ⟨d1, d2, d3, H4, d4, d5, d6, d7⟩ := arrB_st c5 rfl (j := 3) (by simp) (UInt8.ofNat n)
  simp only [List.length_cons, List.length_nil, List.length_set, Nat.reduceAdd] at a1 a2 a3 a4 b1 b2 b3 b4 c1 c2 c3 c4 d1 d2 d3 d4
  have e2 : iaC 3 (.sl id 0 4) := by simp [iaC]
  have e0 : iaC 0 (.sl id 0 4) := by simp [iaC]
  have e3 : iaC 1 (.sl id 0 4) := by simp [iaC]
  have e4 : iaC 2 (.sl id 0 4) := by simp [iaC]
  simp -implicitDefEqProofs only [bU, reduceIte, Nat.reduceEqDiff, reduceCtorEq, implies_true, forall_const, eq_self, Nat.reduceAdd, Nat.reduceLT, bne_self_eq_false, bT, eq_self, true_implies, false_implies, forall_const, if_true, if_false, Int.reduceToNat, Nat.reduceSub, Int.reduceLE, bV, Nat.reduceAdd, Nat.reduceLT, Nat.reduceLeDiff, Nat.reduceLeDiff, Int.reduceToNat, a1, ld1, e0, e2, e3, e4, v24, v16, v8, u8w, a3, a4, b1, b3, b4, c1, c3, c4, d1, d3, d4, endK, rsC, rsV, resV]
  refine ⟨d5, by omega, fun i hi => ?_⟩
  rw [d7 i hi, c7 i hi, b7 i hi, a7 i hi]
theorem r_p32 {n : Nat} {H : AH} (hP : T_putU32 C n_binary_bigEndian_PutUint32) (hn : n < 4294967296) : Runs C c_impl_p32 [.i .i64 n] H fun v H' => v = .s (be32 n) ∧ Ext H H' := by
  unfold Runs c_impl_p32
  have h0 : (H.new (.arr true 0 1 [.i .u8 0, .i .u8 0, .i .u8 0, .i .u8 0])).at' H.n = .arr true 0 1 (encB [0, 0, 0, 0]) := new_at
  obtain ⟨v, H1, k1, rfl, k2, k3, k4⟩ := hP H.n [0, 0, 0, 0] n _ h0 rfl hn
  have hw : IntKind.u32.wrap (n : Int) = n := by rw [IntKind.wrap_u32]; omega
  have s1 : ∃ id, AV.pv H.n 0 = AV.pv id 0 ∧ ∃ rw xs, (H.new (.arr true 0 1 [.i .u8 0, .i .u8 0, .i .u8 0, .i .u8 0])).at' id = .arr rw 0 1 xs ∧ xs.length = 4 := ⟨H.n, rfl, true, _, new_at, rfl⟩
  have s2 : ∃ id, AV.pv H.n 0 = AV.pv id 0 ∧ ∃ rw xs, H1.at' id = .arr rw 0 1 xs ∧ xs.length = 4 := ⟨H.n, rfl, true, _, k2, by simp [be32]⟩
  have hm : Byt H1 (.sl H.n 0 4) (be32 n) := by
    have := Mn.own (H := H1) (z := 1) (id := H.n) (xs := encB (be32 n)) (by rw [k3]; simp) k2
    exact this.sl
  obtain ⟨c1, c2⟩ := Byt.cbs hm
  simp -implicitDefEqProofs only [bU, reduceIte, Nat.reduceEqDiff, reduceCtorEq, implies_true, forall_const, eq_self, Nat.reduceAdd, Nat.reduceLT, bne_self_eq_false, bT, eq_self, true_implies, false_implies, forall_const, if_true, if_false, Int.reduceToNat, Nat.reduceSub, Int.reduceLE, pv_ldC0, pv_ldX0, s1, s2, hw, k1, c1, c2, endK, rsC, rsV, resV]
  exact ⟨by rw [k3]; simp, fun i hi => by rw [k4 i (by omega), new_old hi]⟩
/-! Names. -/
def labGo (s : List UInt8) : Option (List (List UInt8)) := match s with
  | [] => none
  | n :: r => if n.toNat = 0 then (if r = [] then some [] else none) else
    if h : 63 < n.toNat ∨ r.length < n.toNat then none else (labGo (r.drop n.toNat)).map fun q => r.take n.toNat :: q
termination_by s.length
decreasing_by simp; omega
def nameL (s : List UInt8) : Option (List (List UInt8)) := if 255 < s.length then none else labGo s
def LabPost (r : Option (List (List UInt8))) (H : AH) (v : AV) (H' : AH) : Prop := Ext H H' ∧ match r with
  | none => ∃ o, v = .tp [o, .b false] ∧ o.outs = true
  | some ls => ∃ o, v = .tp [o, .b true] ∧ Mn H' 1 o (ls.map AV.s) ∧ ∀ i, i ∈ idA o → H.n ≤ i
def T_labelsOf (C : Tab) (f : Nat) : Prop := ∀ (s : List UInt8) (H : AH), s.length ≤ 9223372036854775807 → ∃ v H', C f [.s s] H = some (v, H') ∧ LabPost (nameL s) H v H'
def T_NameOK (C : Tab) (f : Nat) : Prop := ∀ (s : List UInt8) (H : AH), s.length ≤ 9223372036854775807 → ∃ v H', C f [.s s] H = some (v, H') ∧ v = .b (nameL s).isSome ∧ Ext H H'
theorem r_NameOK {s : List UInt8} {H : AH} (hL : T_labelsOf C n_impl_labelsOf) (hs : s.length ≤ 9223372036854775807) : Runs C c_impl_NameOK [.s s] H fun v H' => v = .b (nameL s).isSome ∧ Ext H H' := by
  unfold Runs c_impl_NameOK
  obtain ⟨v, H', k1, k2, k3⟩ := hL s H hs
  cases hn : nameL s with
  | none =>
    rw [hn] at k3
    obtain ⟨o, rfl, ho⟩ := k3
    simp -implicitDefEqProofs only [bU, reduceIte, Nat.reduceEqDiff, reduceCtorEq, implies_true, forall_const, eq_self, Nat.reduceAdd, Nat.reduceLT, bne_self_eq_false, bT, eq_self, true_implies, false_implies, forall_const, if_true, if_false, Int.reduceToNat, Nat.reduceSub, Int.reduceLE, k1, ho, endK, rsC, rsV, resV]
    exact ⟨rfl, k2⟩
  | some ls =>
    rw [hn] at k3
    obtain ⟨o, rfl, hm, -⟩ := k3
    have ho := hm.sl.out
    simp -implicitDefEqProofs only [bU, reduceIte, Nat.reduceEqDiff, reduceCtorEq, implies_true, forall_const, eq_self, Nat.reduceAdd, Nat.reduceLT, bne_self_eq_false, bT, eq_self, true_implies, false_implies, forall_const, if_true, if_false, Int.reduceToNat, Nat.reduceSub, Int.reduceLE, k1, ho, endK, rsC, rsV, resV]
    exact ⟨rfl, k2⟩
theorem lit_srcS {t g : Nat} {x : List UInt8} {L : List Lv} {H : AH} : srcV ⟨⟨t, g, 0, [.s x]⟩ :: L, g + 1, H⟩ (.ll t g 1 1) = [AV.s x] ∧ srcC ⟨⟨t, g, 0, [.s x]⟩ :: L, g + 1, H⟩ 1 (.ll t g 1 1) := lit_src
theorem r_labelsOf {s : List UInt8} {H : AH} (hs : s.length ≤ 9223372036854775807) : Runs C c_impl_labelsOf [.s s] H (LabPost (nameL s) H) := by
  unfold Runs c_impl_labelsOf
  by_cases hA : (255 : Int) < s.length
  · simp -implicitDefEqProofs only [bU, reduceIte, Nat.reduceEqDiff, reduceCtorEq, implies_true, forall_const, eq_self, Nat.reduceAdd, Nat.reduceLT, bne_self_eq_false, bT, eq_self, true_implies, false_implies, forall_const, if_true, if_false, Int.reduceToNat, Nat.reduceSub, Int.reduceLE, hA, endK, rsC, rsV, resV]
    rw [nameL, if_pos (by omega)]
    exact ⟨.refl _, .ns, rfl, rfl⟩
  have hnm : nameL s = labGo s := by rw [nameL, if_neg (by omega)]
  rw [hnm]
  simp -implicitDefEqProofs only [bU, reduceIte, Nat.reduceEqDiff, reduceCtorEq, implies_true, forall_const, eq_self, Nat.reduceAdd, Nat.reduceLT, bne_self_eq_false, bT, eq_self, true_implies, false_implies, forall_const, if_true, if_false, Int.reduceToNat, Nat.reduceSub, Int.reduceLE, hA]
  refine exec_loop (fun n e M => ∃ (i : Nat) (acc : List (List UInt8)) (o : AV) (H' : AH) (L : List Lv) (g : Nat), i ≤ s.length ∧ n = s.length - i ∧ look e 0 = .s s ∧ look e 4 = o ∧ look e 5 = .i .i64 i ∧ M = ⟨L, g, H'⟩ ∧ acc.length ≤ i ∧ Mn H' 1 o (acc.map AV.s) ∧ Ext H H' ∧ (∀ j, j ∈ idA o → H.n ≤ j) ∧ labGo s = (labGo (s.drop i)).map fun q => acc ++ q) ?_ (n := s.length)
    ⟨0, [], .ns, H, _, _, by omega, by omega, rfl, rfl, rfl, rfl, Nat.le_refl _, .nil, .refl _, by simp [idA], by simp⟩
  rintro n e M ⟨i, acc, o, H', L, g, hi, rfl, q0, q4, q5, rfl, hacc, hm, he, hid, hg⟩
  have ho := hm.sl.out
  by_cases hlt : (i : Int) < s.length
  · have hil : i < s.length := by omega
    have hp : (0 : Int) ≤ i := by omega
    obtain ⟨b, hbb⟩ : ∃ b, s.getD i 0 = b := ⟨_, rfl⟩
    have hd : s.drop i = b :: s.drop (i + 1) := by rw [List.drop_eq_getElem_cons hil, ← hbb]; simp [List.getD, hil]
    have hb := b.toNat_lt
    have hbw : IntKind.i64.wrap (b.toNat : Int) = (b.toNat : Int) := w64 (by omega) (by omega)
    rw [hd, labGo] at hg
    by_cases h0 : b.toNat = 0
    · rw [if_pos h0] at hg
      have hw : IntKind.i64.wrap ((s.length : Int) - 1) = (s.length : Int) - 1 := w64 (by omega) (by omega)
      have h0' : ((0 : Nat) : Int) = 0 := rfl
      have hw0 : IntKind.i64.wrap 0 = 0 := by decide
      by_cases hend : (i : Int) = (s.length : Int) - 1
      · have hr : s.drop (i + 1) = [] := List.drop_of_length_le (by omega)
        rw [if_pos hr, Option.map_some, List.append_nil] at hg
        rw [hg]
        have hend' : ((i : Int) = (s.length : Int) - 1) = True := eq_true hend
        simp -implicitDefEqProofs only [bU, reduceIte, Nat.reduceEqDiff, reduceCtorEq, implies_true, forall_const, eq_self, Nat.reduceAdd, Nat.reduceLT, bne_self_eq_false, bT, eq_self, true_implies, false_implies, forall_const, if_true, if_false, Int.reduceToNat, Nat.reduceSub, Int.reduceLE, q0, q4, q5, hlt, hp, toNat_nat, hbb, hbw, h0, h0', hw0, hw, hend', ho, endK, rsC, rsV, resV]
        exact ⟨he, o, rfl, hm, hid⟩
      · have hr : s.drop (i + 1) ≠ [] := fun hh => by
          have := congrArg List.length hh
          simp at this
          omega
        rw [if_neg hr, Option.map_none] at hg
        rw [hg]
        simp -implicitDefEqProofs only [bU, reduceIte, Nat.reduceEqDiff, reduceCtorEq, implies_true, forall_const, eq_self, Nat.reduceAdd, Nat.reduceLT, bne_self_eq_false, bT, eq_self, true_implies, false_implies, forall_const, if_true, if_false, Int.reduceToNat, Nat.reduceSub, Int.reduceLE, q0, q4, q5, hlt, hp, toNat_nat, hbb, hbw, h0, h0', hw0, hw, hend, ho, endK, rsC, rsV, resV]
        exact ⟨he, o, rfl, ho⟩
    · rw [if_neg h0] at hg
      have h0' : ¬ (b.toNat : Int) = 0 := by omega
      have hl : (s.drop (i + 1)).length = s.length - (i + 1) := by simp
      have w1 : IntKind.i64.wrap ((i : Int) + 1) = ((i + 1 : Nat) : Int) := by rw [w64 (by omega) (by omega)]; rfl
      have w2 : IntKind.i64.wrap (((i + 1 : Nat) : Int) + (b.toNat : Int)) = ((i + 1 + b.toNat : Nat) : Int) := by rw [w64 (by omega) (by omega)]; omega
      by_cases h63 : (63 : Int) < b.toNat
      · rw [dif_pos (.inl (by omega)), Option.map_none] at hg
        rw [hg]
        simp -implicitDefEqProofs only [bU, reduceIte, Nat.reduceEqDiff, reduceCtorEq, implies_true, forall_const, eq_self, Nat.reduceAdd, Nat.reduceLT, bne_self_eq_false, bT, eq_self, true_implies, false_implies, forall_const, if_true, if_false, Int.reduceToNat, Nat.reduceSub, Int.reduceLE, q0, q4, q5, hlt, hp, toNat_nat, hbb, hbw, h0', h63, w1, w2, endK, rsC, rsV, resV]
        exact ⟨he, .ns, rfl, rfl⟩
      · by_cases hlen : (s.length : Int) < ((i + 1 + b.toNat : Nat) : Int)
        · rw [dif_pos (.inr (by rw [hl]; omega)), Option.map_none] at hg
          rw [hg]
          simp -implicitDefEqProofs only [bU, reduceIte, Nat.reduceEqDiff, reduceCtorEq, implies_true, forall_const, eq_self, Nat.reduceAdd, Nat.reduceLT, bne_self_eq_false, bT, eq_self, true_implies, false_implies, forall_const, if_true, if_false, Int.reduceToNat, Nat.reduceSub, Int.reduceLE, q0, q4, q5, hlt, hp, toNat_nat, hbb, hbw, h0', h63, w1, w2, hlen, endK, rsC, rsV, resV]
          exact ⟨he, .ns, rfl, rfl⟩
        · rw [dif_neg (by rw [hl]; omega), List.drop_drop] at hg
          have w3 : IntKind.i64.wrap (1 + (b.toNat : Int)) = ((1 + b.toNat : Nat) : Int) := by rw [w64 (by omega) (by omega)]; omega
          have w4 : IntKind.i64.wrap ((i : Int) + ((1 + b.toNat : Nat) : Int)) = ((i + 1 + b.toNat : Nat) : Int) := by rw [w64 (by omega) (by omega)]; omega
          have r1 : (0 : Int) ≤ ((i + 1 : Nat) : Int) := by omega
          have r2 : ((i + 1 : Nat) : Int) ≤ ((i + 1 + b.toNat : Nat) : Int) := by omega
          have r3 : ((i + 1 + b.toNat : Nat) : Int) ≤ s.length := by omega
          have r4 : i + 1 + b.toNat - (i + 1) = b.toNat := by omega
          obtain ⟨p1, o', H2, p2, p3, p4, p5, p6, p7, -⟩ := Mn.ap (by' := 16) hm (lit_srcS (t := 46) (g := g) (x := (s.drop (i + 1)).take b.toNat) (L := dropL (keepL [0, 4, 5] L) 46) (H := H')) (by simp; omega)
          simp -implicitDefEqProofs only [bU, reduceIte, Nat.reduceEqDiff, reduceCtorEq, implies_true, forall_const, eq_self, Nat.reduceAdd, Nat.reduceLT, bne_self_eq_false, bT, eq_self, true_implies, false_implies, forall_const, if_true, if_false, Int.reduceToNat, Nat.reduceSub, Int.reduceLE, q0, q4, q5, hlt, hp, toNat_nat, hbb, hbw, h0', h63, w1, w2, w3, w4, hlen, r1, r2, r3, r4, fillEC, fillE, List.replicate, List.set]
          simp -implicitDefEqProofs only [bU, reduceIte, Nat.reduceEqDiff, reduceCtorEq, implies_true, forall_const, eq_self, Nat.reduceAdd, Nat.reduceLT, bne_self_eq_false, p1, p2, p3]
          refine ⟨s.length - (i + 1 + b.toNat), by omega, i + 1 + b.toNat, acc ++ [(s.drop (i + 1)).take b.toNat], o', H2, _, _, by omega, rfl, rfl, rfl, rfl, by simp; omega, ?_, he.put hid p5 p6, fun j hj => ?_, ?_⟩
          · rw [List.map_append]; exact p4
          · rcases p7 j hj with h | h
            · exact hid j h
            · have := he.n; omega
          · rw [hg, Option.map_map]
            cases labGo (s.drop (i + 1 + b.toNat)) <;> simp
  · have hil : i = s.length := by omega
    have : labGo s = none := by rw [hg, hil, List.drop_length, labGo]; rfl
    rw [this]
    simp -implicitDefEqProofs only [bU, reduceIte, Nat.reduceEqDiff, reduceCtorEq, implies_true, forall_const, eq_self, Nat.reduceAdd, Nat.reduceLT, bne_self_eq_false, bT, eq_self, true_implies, false_implies, forall_const, if_true, if_false, Int.reduceToNat, Nat.reduceSub, Int.reduceLE, q0, q4, q5, hlt, endK, rsC, rsV, resV]
    exact ⟨he, .ns, rfl, rfl⟩
end
end Go.Vm

/- The writer of messages: what is valid, a record, a message. -/
namespace Go.Vm
set_option linter.unusedVariables false
set_option linter.unusedSimpArgs false
/-- The program's table of forms. -/
def formsL : List (Int × List UInt8) := [(1, [52]), (2, [110]), (5, [110]), (6, [110, 110, 103, 103, 103, 103, 113]), (12, [110]), (13, [116, 116]), (15, [50, 110]), (16, [84]), (28, [103, 103, 103, 103]), (33, [50, 50, 50, 110]), (35, [50, 50, 116, 116, 116, 110]), (39, [110]), (47, [110, 109]), (257, [49, 99, 42])]
def formsEs : List (AV × AV) := formsL.map fun e => (.i .i64 e.1, .s e.2)
abbrev gForms : Nat := 1
structure FormsOK (H : AH) : Prop where
  ex : ∃ rw mid es, H.at' gForms = .arr rw 0 1 [.mp mid] ∧ H.at' mid = .map false es ∧ gForms < H.n ∧ mid < H.n ∧ (∀ e ∈ es, e.1.isCk (.i .i64) = true) ∧ ∀ t, mpFind es (.i .i64 t) = mpFind formsEs (.i .i64 t)
theorem FormsOK.ext {H H' : AH} (h : FormsOK H) (he : Ext H H') : FormsOK H' := by
  obtain ⟨rw, mid, es, h1, h2, h3, h4, h5⟩ := h
  exact ⟨rw, mid, es, (he.at' _ h3).trans h1, (he.at' _ h4).trans h2, Nat.lt_of_lt_of_le h3 he.n, Nat.lt_of_lt_of_le h4 he.n, h5⟩
/-- No form is told of a type. -/
def formless (t : Int) : Prop := mpFind formsEs (.i .i64 t) = none
theorem formless41 : formless 41 := by unfold formless; rfl
def T_parsed0 (C : Tab) (f : Nat) : Prop := ∀ (t : Int) (d : List UInt8) (H : AH), FormsOK H → formless t → ∃ v H', C f [.i .i64 t, .s d] H = some (v, H') ∧ v = .tp [.ns, .b true] ∧ Ext H H'
def T_CheckData0 (C : Tab) (f : Nat) : Prop := ∀ (t : Int) (d : List UInt8) (H : AH), FormsOK H → formless t → 0 ≤ t → t ≤ 65535 → ∃ v H', C f [.i .i64 t, .s d] H = some (v, H') ∧ v = .i .i64 (if d.length > 65535 then 7 else 0) ∧ Ext H H'
section
variable {C : Tab}
theorem r_parsed0 {t : Int} {d : List UInt8} {H : AH} (hF : FormsOK H) (ht : formless t) : Runs C c_impl_parsed [.i .i64 t, .s d] H fun v H' => v = .tp [.ns, .b true] ∧ Ext H H' := by
  unfold Runs c_impl_parsed
  obtain ⟨rw, mid, es, h1, h2, h3, h4, h5, h6⟩ := hF.ext (Ext.new H (.arr true 0 1 [.s d]))
  have f1 : ∀ (L : List Lv) (g : Nat), ldC ⟨L, g, H.new (.arr true 0 1 [.s d])⟩ none (.pv 1 0) := fun L g => by
    simp only [ldC, show (H.new (.arr true 0 1 [.s d])).at' 1 = _ from h1]
    exact .inr ⟨trivial, by simp [partFits, flat, AV.cells]⟩
  have f2 : ∀ (L : List Lv) (g : Nat), ldX ⟨L, g, H.new (.arr true 0 1 [.s d])⟩ none (.pv 1 0) = .mp mid := fun L g => by
    show ldV _ none (.pv 1 0) = _
    simp only [ldV, show (H.new (.arr true 0 1 [.s d])).at' 1 = _ from h1]
    rfl
  have f3 : mpOk (H.new (.arr true 0 1 [.s d])) (.mp mid) := by simp only [mpOk, h2]
  have f4 : mpEs (H.new (.arr true 0 1 [.s d])) (.mp mid) = es := by simp only [mpEs, h2]
  have f5 : keyOk [.i .i64] es (.i .i64 t) := ⟨.i .i64, rfl, rfl, h5⟩
  have f6 : mpFind es (.i .i64 t) = none := (h6 t).trans ht
  simp -implicitDefEqProofs only [bU, reduceIte, Nat.reduceEqDiff, reduceCtorEq, implies_true, forall_const, eq_self, Nat.reduceAdd, Nat.reduceLT, bne_self_eq_false, bT, eq_self, true_implies, false_implies, forall_const, if_true, if_false, Int.reduceToNat, Nat.reduceSub, Int.reduceLE, f1, f2, f3, f4, f5, f6, lkV, endK, rsC, rsV, resV]
  exact .new _ _
theorem r_CheckData0 {t : Int} {d : List UInt8} {H : AH} (hP : T_parsed0 C n_impl_parsed) (hF : FormsOK H) (ht : formless t) (h0 : 0 ≤ t) (h1 : t ≤ 65535) : Runs C c_impl_CheckData [.i .i64 t, .s d] H fun v H' => v = .i .i64 (if d.length > 65535 then 7 else 0) ∧ Ext H H' := by
  unfold Runs c_impl_CheckData
  obtain ⟨v, H', k1, rfl, k2⟩ := hP t d H hF ht
  have c1 : ¬ t < 0 := by omega
  have c2 : ¬ (65535 : Int) < t := by omega
  by_cases hd : (65535 : Int) < d.length
  · simp -implicitDefEqProofs only [bU, reduceIte, Nat.reduceEqDiff, reduceCtorEq, implies_true, forall_const, eq_self, Nat.reduceAdd, Nat.reduceLT, bne_self_eq_false, bT, eq_self, true_implies, false_implies, forall_const, if_true, if_false, Int.reduceToNat, Nat.reduceSub, Int.reduceLE, c1, c2, hd, endK, rsC, rsV, resV]
    rw [if_pos (by omega)]
    exact ⟨rfl, .refl _⟩
  · simp -implicitDefEqProofs only [bU, reduceIte, Nat.reduceEqDiff, reduceCtorEq, implies_true, forall_const, eq_self, Nat.reduceAdd, Nat.reduceLT, bne_self_eq_false, bT, eq_self, true_implies, false_implies, forall_const, if_true, if_false, Int.reduceToNat, Nat.reduceSub, Int.reduceLE, c1, c2, hd, k1, endK, rsC, rsV, resV]
    rw [if_neg (by omega)]
    exact ⟨rfl, k2⟩
/-! A record that may be written. -/
/-- What is asked of a record here: its data's check is known. -/
def ChkR (C : Tab) (r : Rr) (H : AH) : Prop := r.d = [] ∨ ∃ v H', C n_impl_CheckData [.i .i64 r.t, .s r.d] H = some (v, H') ∧ v = .i .i64 0 ∧ Ext H H'
def recOk (r : Rr) : Prop := (nameL r.o).isSome = true ∧ (0 ≤ r.t ∧ r.t ≤ 65535) ∧ (0 ≤ r.c ∧ r.c ≤ 65535) ∧ (0 ≤ r.ttl ∧ r.ttl ≤ 4294967295)
theorem r_recordOk {r : Rr} {H : AH} (hN : T_NameOK C n_impl_NameOK) (hW : T_within C n_impl_within) (hl : r.o.length ≤ 9223372036854775807) (hr : recOk r) (hC : ∀ H', Ext H H' → ChkR C r H') :
    Runs C c_impl_recordOk [eR.v r] H fun v H' => v = .b true ∧ Ext H H' := by
  unfold Runs c_impl_recordOk
  obtain ⟨h1, h2, h3, h4⟩ := hr
  obtain ⟨v, H1, k1, rfl, e1⟩ := hN r.o H hl
  rw [h1] at k1
  have w1 := hW r.t 0 65535 H1
  have w2 := hW r.c 0 65535 H1
  have w3 := hW r.ttl 0 4294967295 H1
  rw [decide_eq_true h2] at w1
  rw [decide_eq_true h3] at w2
  rw [decide_eq_true h4] at w3
  simp only [Enc.v, eR]
  rcases hC H1 e1 with hd | ⟨v2, H2, k2, rfl, e2⟩
  · simp -implicitDefEqProofs only [bU, reduceIte, Nat.reduceEqDiff, reduceCtorEq, implies_true, forall_const, eq_self, Nat.reduceAdd, Nat.reduceLT, bne_self_eq_false, bT, eq_self, true_implies, false_implies, forall_const, if_true, if_false, Int.reduceToNat, Nat.reduceSub, Int.reduceLE, bV, Nat.reduceAdd, Nat.reduceLT, Nat.reduceLeDiff, Nat.reduceLeDiff, k1, w1, w2, w3, hd, endK, rsC, rsV, resV]
    exact e1
  · by_cases hd : r.d = []
    · simp -implicitDefEqProofs only [bU, reduceIte, Nat.reduceEqDiff, reduceCtorEq, implies_true, forall_const, eq_self, Nat.reduceAdd, Nat.reduceLT, bne_self_eq_false, bT, eq_self, true_implies, false_implies, forall_const, if_true, if_false, Int.reduceToNat, Nat.reduceSub, Int.reduceLE, bV, Nat.reduceAdd, Nat.reduceLT, Nat.reduceLeDiff, Nat.reduceLeDiff, k1, w1, w2, w3, hd, endK, rsC, rsV, resV]
      exact e1
    · simp -implicitDefEqProofs only [bU, reduceIte, Nat.reduceEqDiff, reduceCtorEq, implies_true, forall_const, eq_self, Nat.reduceAdd, Nat.reduceLT, bne_self_eq_false, bT, eq_self, true_implies, false_implies, forall_const, if_true, if_false, Int.reduceToNat, Nat.reduceSub, Int.reduceLE, bV, Nat.reduceAdd, Nat.reduceLT, Nat.reduceLeDiff, Nat.reduceLeDiff, k1, w1, w2, w3, hd, k2, endK, rsC, rsV, resV]
      exact e1.trans e2
def T_recordOk1 (C : Tab) (f : Nat) (r : Rr) : Prop := ∀ H, FormsOK H → ∃ v H', C f [eR.v r] H = some (v, H') ∧ v = .b true ∧ Ext H H'
/-- A message of one record among the extra ones. -/
theorem r_validMessage1 {c : AV} {h : Hd} {r : Rr} {H : AH} (hW : T_within C n_impl_within) (hR : T_recordOk1 C n_impl_recordOk r) (hF : FormsOK H) (hc : Sx H eR c [r]) (h1 : 0 ≤ h.id ∧ h.id ≤ 65535) (h2 : 0 ≤ h.op ∧ h.op ≤ 15) (h3 : 0 ≤ h.code ∧ h.code ≤ 15) :
    Runs C c_impl_validMessage [mV h .ns .ns .ns c] H fun v H' => v = .b true ∧ Ext H H' := by
  unfold Runs c_impl_validMessage mV
  have o4 := hc.out
  have z4 := hc.one
  obtain ⟨l1, l2⟩ := hc.len
  have l1' : lenV c = .i .i64 1 := l1
  have l0 : lenV .ns = .i .i64 0 := rfl
  have l00 : lenC .ns := trivial
  have w1 := hW h.id 0 65535 H
  have w2 := hW h.op 0 15 H
  have w3 := hW h.code 0 15 H
  rw [decide_eq_true h1] at w1
  rw [decide_eq_true h2] at w2
  rw [decide_eq_true h3] at w3
  have a0 : IntKind.i64.wrap (0 + 0) = 0 := by decide
  have a1 : IntKind.i64.wrap (0 + 1) = 1 := by decide
  have z0 : AV.ns.cells = [.ns] := rfl
  simp -implicitDefEqProofs only [bU, reduceIte, Nat.reduceEqDiff, reduceCtorEq, implies_true, forall_const, eq_self, Nat.reduceAdd, Nat.reduceLT, bne_self_eq_false, bT, eq_self, true_implies, false_implies, forall_const, if_true, if_false, Int.reduceToNat, Nat.reduceSub, Int.reduceLE, bV, Nat.reduceAdd, Nat.reduceLT, Nat.reduceLeDiff, Nat.reduceLeDiff, o4, z4, w1, w2, w3, l0, l00, l1', l2, a0, a1, Int.reduceLT, fillEC, fillE, List.replicate, List.set]
  refine exec_loop (fun n e M => ∃ (L : List Lv) (g : Nat), look e 47 = .ns ∧ look e 48 = .i .i64 0 ∧ look e 49 = .i .i64 0 ∧ look e 1 = .la 1 0 0 0 ∧ M = ⟨L, g, H⟩ ∧ keepL [1, 47, 48, 49] L = [⟨1, 0, 0, [mV h .ns .ns .ns c]⟩]) ?_ (n := 0) ⟨_, _, rfl, rfl, rfl, rfl, rfl, rfl⟩
  rintro n e M ⟨L, g, q47, q48, q49, q1, rfl, hL⟩
  unfold mV at hL
  simp -implicitDefEqProofs only [bU, reduceIte, Nat.reduceEqDiff, reduceCtorEq, implies_true, forall_const, eq_self, Nat.reduceAdd, Nat.reduceLT, bne_self_eq_false, bT, eq_self, true_implies, false_implies, forall_const, if_true, if_false, Int.reduceToNat, Nat.reduceSub, Int.reduceLE, bV, Nat.reduceAdd, Nat.reduceLT, Nat.reduceLeDiff, Nat.reduceLeDiff, q47, q48, q49, q1, hL, o4, z4, l0, l00, Int.reduceLT, fillEC, fillE, List.replicate, List.set, lenV, lenC]
  refine exec_loop (fun n e M => ∃ (j : Nat) (H' : AH) (L : List Lv) (g g' : Nat), j ≤ 3 ∧ n = 3 - j ∧ look e 76 = .ll 76 g' 1 3 ∧ look e 77 = .i .i64 3 ∧ look e 78 = .i .i64 j ∧ M = ⟨L, g, H'⟩ ∧ Ext H H' ∧ keepL [76, 77, 78] L = [⟨76, g', 0, [.ns, .ns, c]⟩]) ?_ (n := 3)
    ⟨0, H, _, _, _, by omega, by omega, rfl, rfl, rfl, rfl, .refl _, rfl⟩
  clear q47 q48 q49 q1 hL
  rintro n e M ⟨j, H', L, g, g', hj, rfl, q76, q77, q78, rfl, he, hL⟩
  have w9 : IntKind.i64.wrap ((j : Int) + 1) = ((j + 1 : Nat) : Int) := by rw [w64 (by omega) (by omega)]; rfl
  have j0 : (0 : Int) ≤ j := by omega
  by_cases hj3 : (j : Int) < 3
  · have hjn : j < 3 := by omega
    have hia : iaC (j : Int) (.ll 76 g' 1 3) := ⟨j0, hj3⟩
    obtain ⟨ax, xs, hax, hget, hxs, hxl⟩ : ∃ ax xs, Sx H' eR ax xs ∧ [AV.ns, .ns, c].getD j .u = ax ∧ (∀ x, x ∈ xs → x = r) ∧ xs.length ≤ 1 := by
      obtain rfl | rfl | rfl : j = 0 ∨ j = 1 ∨ j = 2 := by omega
      · exact ⟨.ns, [], .nil, rfl, by simp, by simp⟩
      · exact ⟨.ns, [], .nil, rfl, by simp, by simp⟩
      · exact ⟨c, [r], Sl.ext hc he, rfl, by simp, by simp⟩
    obtain ⟨m1, m2⟩ := hax.len
    have za := hax.one
    simp -implicitDefEqProofs only [bU, reduceIte, Nat.reduceEqDiff, reduceCtorEq, implies_true, forall_const, eq_self, Nat.reduceAdd, Nat.reduceLT, bne_self_eq_false, bT, eq_self, true_implies, false_implies, forall_const, if_true, if_false, Int.reduceToNat, Nat.reduceSub, Int.reduceLE, bV, Nat.reduceAdd, Nat.reduceLT, Nat.reduceLeDiff, Nat.reduceLeDiff, q76, q77, q78, hj3, hL, slZ, hia, iaV, toNat_nat, hget, hjn, za, m1, m2]
    refine exec_loop (fun n e M => ∃ (i : Nat) (H' : AH) (L : List Lv) (g : Nat), i ≤ xs.length ∧ n = xs.length - i ∧ look e 76 = .ll 76 g' 1 3 ∧ look e 77 = .i .i64 3 ∧ look e 78 = .i .i64 j ∧ look e 82 = ax ∧ look e 83 = .i .i64 xs.length ∧ look e 84 = .i .i64 i ∧ M = ⟨L, g, H'⟩ ∧ Ext H H' ∧ Sx H' eR ax xs ∧ keepL [76, 77, 78, 82, 83, 84] L = [⟨76, g', 0, [.ns, .ns, c]⟩]) ?_ (n := xs.length)
      ⟨0, H', _, _, by omega, by omega, rfl, rfl, rfl, rfl, rfl, rfl, rfl, he, hax, rfl⟩
    clear q76 q77 q78 hL he hax m1 m2 H'
    rintro n e M ⟨i, H', L, g, hi, rfl, q76, q77, q78, q82, q83, q84, rfl, he, hax, hL⟩
    by_cases hlt : (i : Int) < xs.length
    · have hil : i < xs.length := by omega
      obtain ⟨b1, b2, b3, b4⟩ := Sx.at' hax hil
      have hxr := hxs xs[i] (List.getElem_mem hil)
      rw [hxr] at b4
      simp only [show eR.z = 5 from rfl, show eR.v r = AV.ag [.s r.o, .i .i64 r.t, .i .i64 r.c, .i .i64 r.ttl, .s r.d] from rfl] at b1 b3 b4
      obtain ⟨v, H2, k1, rfl, e2⟩ := hR H' (hF.ext he)
      simp only [show eR.v r = AV.ag [.s r.o, .i .i64 r.t, .i .i64 r.c, .i .i64 r.ttl, .s r.d] from rfl] at k1
      have w8 : IntKind.i64.wrap ((i : Int) + 1) = ((i + 1 : Nat) : Int) := by
        rw [w64 (by omega) (by omega)]; rfl
      simp -implicitDefEqProofs only [bU, reduceIte, Nat.reduceEqDiff, reduceCtorEq, implies_true, forall_const, eq_self, Nat.reduceAdd, Nat.reduceLT, bne_self_eq_false, bT, eq_self, true_implies, false_implies, forall_const, if_true, if_false, Int.reduceToNat, Nat.reduceSub, Int.reduceLE, bV, Nat.reduceAdd, Nat.reduceLT, Nat.reduceLeDiff, Nat.reduceLeDiff, q76, q77, q78, q82, q83, q84, hlt, hL, b1, b2, b3, b4, toNat_nat, k1, w8]
      exact ⟨xs.length - (i + 1), by omega, i + 1, H2, _, _, by omega, rfl, rfl, rfl, he.trans e2, Sl.ext hax e2, rfl⟩
    · simp -implicitDefEqProofs only [bU, reduceIte, Nat.reduceEqDiff, reduceCtorEq, implies_true, forall_const, eq_self, Nat.reduceAdd, Nat.reduceLT, bne_self_eq_false, bT, eq_self, true_implies, false_implies, forall_const, if_true, if_false, Int.reduceToNat, Nat.reduceSub, Int.reduceLE, bV, Nat.reduceAdd, Nat.reduceLT, Nat.reduceLeDiff, Nat.reduceLeDiff, q76, q77, q78, q82, q83, q84, hlt, hL, w9]
      exact ⟨3 - (j + 1), by omega, j + 1, H', _, _, g', by omega, rfl, rfl, rfl, rfl, he, rfl⟩
  · simp -implicitDefEqProofs only [bU, reduceIte, Nat.reduceEqDiff, reduceCtorEq, implies_true, forall_const, eq_self, Nat.reduceAdd, Nat.reduceLT, bne_self_eq_false, bT, eq_self, true_implies, false_implies, forall_const, if_true, if_false, Int.reduceToNat, Nat.reduceSub, Int.reduceLE, bV, Nat.reduceAdd, Nat.reduceLT, Nat.reduceLeDiff, Nat.reduceLeDiff, q76, q77, q78, hj3, hL, endK, rsC, rsV, resV]
    exact he
end
end Go.Vm

/- Data of records: their forms, what has a form. No program in sight. -/
namespace Go.Vm
set_option linter.unusedVariables false
set_option linter.unusedSimpArgs false
def nmGo : List UInt8 → Nat → Nat
  | [], _ => 0
  | c :: r, i => if c.toNat = 0 then (if 255 < i + 1 then 0 else i + 1) else if 63 < c.toNat then 0 else nmGo (r.drop c.toNat) (i + 1 + c.toNat)
termination_by l => l.length
decreasing_by simp; omega
/-- How many bytes the name has at the beginning; 0: there is none. -/
def nmAt (d : List UInt8) : Nat := nmGo d 0
theorem nmGo_nil (i : Nat) : nmGo [] i = 0 := by rw [nmGo]
theorem nmGo_at {s : List UInt8} {i : Nat} (hi : i < s.length) : nmGo (s.drop i) i = if (s.getD i 0).toNat = 0 then (if 255 < i + 1 then 0 else i + 1) else if 63 < (s.getD i 0).toNat then 0 else nmGo (s.drop (i + 1 + (s.getD i 0).toNat)) (i + 1 + (s.getD i 0).toNat) := by
  have e : s.getD i 0 = s[i] := by simp [List.getD, List.getElem?_eq_getElem hi]
  rw [List.drop_eq_getElem_cons hi, nmGo, e, List.drop_drop]
theorem nmGo_far : ∀ (n : Nat) (l : List UInt8) (i : Nat), l.length ≤ n → 255 ≤ i → nmGo l i = 0
  | n, [], i, _, _ => nmGo_nil i
  | 0, _ :: _, _, h, _ => by simp at h
  | n + 1, c :: r, i, h, hi => by
    rw [nmGo]
    by_cases h0 : c.toNat = 0
    · rw [if_pos h0, if_pos (by omega)]
    · rw [if_neg h0]
      by_cases h1 : 63 < c.toNat
      · rw [if_pos h1]
      · rw [if_neg h1]
        exact nmGo_far n _ _ (by simp at h ⊢; omega) (by omega)
theorem nmGo_le : ∀ (n : Nat) (l : List UInt8) (i : Nat), l.length ≤ n → nmGo l i ≤ i + l.length ∧ (nmGo l i ≠ 0 → i < nmGo l i)
  | n, [], i, _ => by simp [nmGo_nil]
  | 0, _ :: _, _, h => by simp at h
  | n + 1, c :: r, i, h => by
    rw [nmGo]
    simp only [List.length_cons] at h ⊢
    by_cases h0 : c.toNat = 0
    · rw [if_pos h0]
      split <;> omega
    · rw [if_neg h0]
      by_cases h1 : 63 < c.toNat
      · rw [if_pos h1]; omega
      · rw [if_neg h1]
        obtain ⟨g1, g2⟩ := nmGo_le n (r.drop c.toNat) (i + 1 + c.toNat) (by simp; omega)
        simp only [List.length_drop] at g1
        by_cases hz : nmGo (r.drop c.toNat) (i + 1 + c.toNat) = 0
        · rw [hz]; omega
        · have := g2 hz
          by_cases hc : c.toNat ≤ r.length
          · omega
          · rw [List.drop_of_length_le (by omega), nmGo_nil] at hz
            exact absurd rfl hz
theorem nmAt_le (d : List UInt8) : nmAt d ≤ d.length := by have := (nmGo_le _ d 0 (Nat.le_refl _)).1; unfold nmAt; omega
/-- Such bytes are a name. -/
theorem nmGo_lab : ∀ (n : Nat) (l : List UInt8) (i : Nat), l.length ≤ n → nmGo l i ≠ 0 → (labGo (l.take (nmGo l i - i))).isSome = true
  | n, [], i, _, h => absurd (nmGo_nil i) h
  | 0, _ :: _, _, h, _ => by simp at h
  | n + 1, c :: r, i, h, hne => by
    rw [nmGo] at hne ⊢
    by_cases h0 : c.toNat = 0
    · rw [if_pos h0] at hne ⊢
      by_cases h2 : 255 < i + 1
      · rw [if_pos h2] at hne; exact absurd rfl hne
      · rw [if_neg h2, Nat.add_sub_cancel_left, List.take_succ_cons, List.take_zero, labGo]
        simp [h0]
    · rw [if_neg h0] at hne ⊢
      by_cases h1 : 63 < c.toNat
      · rw [if_pos h1] at hne; exact absurd rfl hne
      · rw [if_neg h1] at hne ⊢
        simp only [List.length_cons] at h
        obtain ⟨g1, g2⟩ := nmGo_le n (r.drop c.toNat) (i + 1 + c.toNat) (by simp; omega)
        have g3 := g2 hne
        simp only [List.length_drop] at g1
        have hc : c.toNat ≤ r.length := by
          rcases Nat.lt_or_ge r.length c.toNat with hc | hc
          · rw [List.drop_of_length_le (by omega), nmGo_nil] at hne; exact absurd rfl hne
          · exact hc
        have ih := nmGo_lab n (r.drop c.toNat) (i + 1 + c.toNat) (by simp; omega) hne
        generalize nmGo (r.drop c.toNat) (i + 1 + c.toNat) = k at *
        have e : k - i = (c.toNat + (k - (i + 1 + c.toNat))) + 1 := by omega
        rw [e, List.take_succ_cons, labGo]
        have hl : (List.take (c.toNat + (k - (i + 1 + c.toNat))) r).length = c.toNat + (k - (i + 1 + c.toNat)) := by simp; omega
        simp only [h0, if_false]
        rw [dif_neg (by rw [hl]; omega)]
        have e2 : (List.take (c.toNat + (k - (i + 1 + c.toNat))) r).drop c.toNat = (r.drop c.toNat).take (k - (i + 1 + c.toNat)) := by
          rw [List.drop_take, Nat.add_sub_cancel_left]
        rw [e2]
        cases hh : labGo ((r.drop c.toNat).take (k - (i + 1 + c.toNat))) with
        | none => rw [hh] at ih; cases ih
        | some x => rfl
theorem nmAt_lab {d : List UInt8} (h : nmAt d ≠ 0) : (labGo (d.take (nmAt d))).isSome = true := nmGo_lab _ d 0 (Nat.le_refl _) h
/-- The short text at the beginning, with its length. -/
def txt (s : List UInt8) : List UInt8 := match s with
  | [] => []
  | c :: r => if r.length < c.toNat then [] else c :: r.take c.toNat
theorem txt_len (s : List UInt8) : (txt s).length ≤ s.length := by
  cases s with
  | nil => simp [txt]
  | cons c r => simp only [txt]; split <;> simp; omega
def txts (s : List UInt8) : List UInt8 := if h : txt s = [] then [] else txt s ++ txts (s.drop (txt s).length)
termination_by s.length
decreasing_by
  have h1 := List.length_pos_iff.2 h
  have h2 := txt_len s
  simp; omega
def alnum (c : UInt8) : Bool := (decide (48 ≤ c.toNat) && decide (c.toNat ≤ 57)) || (decide (97 ≤ c.toNat) && decide (c.toNat ≤ 122)) || (decide (65 ≤ c.toNat) && decide (c.toNat ≤ 90))
/-- A map of types. -/
def mapBad (w n : UInt8) (r : List UInt8) (last : Int) : Bool := decide ((w.toNat : Int) ≤ last) || decide (n.toNat < 1) || decide (32 < n.toNat) || decide (r.length < n.toNat) || decide ((r.getD (n.toNat - 1) 0).toNat = 0)
def mapOk (s : List UInt8) (last : Int) : Bool := match s with
  | [] => true
  | [_] => false
  | w :: n :: r => if mapBad w n r last then false else mapOk (r.drop n.toNat) w.toNat
termination_by s.length
decreasing_by simp; omega
def part (f : UInt8) (d : List UInt8) : Option (List UInt8) :=
  if f = 110 then (if nmAt d = 0 then none else some (d.take (nmAt d)))
  else if f = 98 then (if d = [] then none else some (d.take 1))
  else if f = 116 then (if txt d = [] then none else some (txt d))
  else if f = 115 then (if txts d = [] then none else some (txts d))
  else if f = 99 then (if 2 ≤ (txt d).length ∧ (txt d).length ≤ 16 ∧ ((txt d).drop 1).all alnum = true then some d else none)
  else if f = 109 then (if mapOk d (-1) then some d else none)
  else if f = 42 then some d else none
/-- Data cut by its form: letters and their parts. -/
def prs : List UInt8 → List UInt8 → Option (List (UInt8 × List UInt8))
  | [], d => if d = [] then some [] else none
  | f :: fs, d => match part f d with
    | none => none
    | some p => (prs fs (d.drop p.length)).map fun r => (f, p) :: r
def specForm (t : Int) : List UInt8 :=
  if t = 1 then [98, 98, 98, 98] else if t = 2 ∨ t = 5 ∨ t = 12 ∨ t = 39 then [110] else if t = 6 then [110, 110, 98, 98, 98, 98, 98, 98, 98, 98, 98, 98, 98, 98, 98, 98, 98, 98, 98, 98, 98, 98] else
  if t = 13 then [116, 116] else if t = 15 then [98, 98, 110] else if t = 16 then [115] else if t = 28 then [98, 98, 98, 98, 98, 98, 98, 98, 98, 98, 98, 98, 98, 98, 98, 98] else if t = 33 then [98, 98, 98, 98, 98, 98, 110] else
  if t = 35 then [98, 98, 98, 98, 116, 116, 116, 110] else if t = 47 then [110, 109] else if t = 257 then [98, 99] else [42]
/-- Has it the form of its type? -/
def chk (t : Int) (d : List UInt8) : Int := if t < 0 ∨ 65535 < t then 6 else if 65535 < d.length ∨ (prs (specForm t) d).isNone then 7 else 0
theorem txts_nil {s : List UInt8} (h : txt s = []) : txts s = [] := by rw [txts, dif_pos h]
theorem txts_cons {s : List UInt8} (h : txt s ≠ []) : txts s = txt s ++ txts (s.drop (txt s).length) := by rw [txts, dif_neg h]
theorem txts_len : ∀ (n : Nat) (s : List UInt8), s.length ≤ n → (txts s).length ≤ s.length
  | 0, s, h => by
    have : s = [] := List.eq_nil_of_length_eq_zero (by omega)
    subst this
    rw [txts_nil rfl]; simp
  | n + 1, s, h => by
    by_cases ht : txt s = []
    · rw [txts_nil ht]; simp
    · rw [txts_cons ht]
      have h1 := List.length_pos_iff.2 ht
      have h2 := txt_len s
      have := txts_len n (s.drop (txt s).length) (by simp; omega)
      simp only [List.length_append, List.length_drop] at this ⊢
      omega
theorem part_len {f : UInt8} {d p : List UInt8} (h : part f d = some p) : p.length ≤ d.length := by
  unfold part at h
  have a := nmAt_le d
  have b := txt_len d
  have c := txts_len _ d (Nat.le_refl _)
  repeat' split at h
  all_goals first | (cases h; done) | (injection h with h; subst h; simp; omega) | (injection h with h; subst h; exact b) | (injection h with h; subst h; exact c) | (injection h with h; subst h; exact Nat.le_refl _)
end Go.Vm

/- Functions' code as literals of the abstract machine, printed by wip/tools/lits.py; the kernel checks each against the translation. -/
namespace Go.Vm
set_option linter.unusedVariables false
set_option linter.unusedSimpArgs false
/-- loop.example/s01858/spec.NameOK -/
def c_spec_NameOK : Fn := ⟨1, [(.t 2)],
    .q (.o [.mv 2 (.c (.b false))])
    (.q (.o [.mv 6 (.t 0),
      .cl (some 7) 99 [(.t 6)],
      .mv 5 (.t 7),
      .ex 8 (.t 5) 0,
      .ex 9 (.t 5) 1,
      .mv 3 (.t 8),
      .mv 4 (.t 9)])
    (.q (.o [.mv 10 (.t 4),
      .mv 2 (.t 10)])
    (.r)))⟩
abbrev n_spec_NameOK : Nat := 73
theorem k_spec_NameOK : chkF Go.Proofs.Tryd.prog c_spec_NameOK 73 = true := by kernel_rfl
/-- loop.example/s01858/impl.DataNames -/
def c_impl_DataNames : Fn := ⟨2, [(.t 4)],
    .q (.o [.mv 4 (.c .ns)])
    (.q (.q (.o [.mv 7 (.t 0),
      .mv 8 (.t 1),
      .cl (some 9) 70 [(.t 7), (.t 8)],
      .bn 10 .neq (.t 9) (.c (.i .i64 0))])
    (.i (.t 10) (.q (.o [.mv 4 (.c .ns)])
    (.r))
    (.k)))
    (.q (.o [.mv 12 (.t 0),
      .mv 13 (.t 1),
      .cl (some 14) 98 [(.t 12), (.t 13)],
      .mv 11 (.t 14),
      .ex 15 (.t 11) 0,
      .ex 16 (.t 11) 1,
      .mv 5 (.t 15),
      .mv 6 (.t 16)])
    (.q (.o [.mv 17 (.t 5),
      .mv 4 (.t 17)])
    (.r))))⟩
abbrev n_impl_DataNames : Nat := 96
theorem k_impl_DataNames : chkF Go.Proofs.Tryd.prog c_impl_DataNames 96 = true := by kernel_rfl
/-- loop.example/s01858/spec.l01Split -/
def c_spec_l01Split : Fn := ⟨1, [(.t 2), (.t 3)],
    .q (.o [.mv 2 (.c .ns),
      .mv 3 (.c (.b false))])
    (.q (.o [.bs 7 (.s []) 1 0 [],
      .mv 4 (.t 7)])
    (.q (.q (.o [.mv 8 (.t 0),
      .lns 9 (.t 8),
      .bn 10 .lss (.t 9) (.c (.i .i64 1)),
      .mv 11 (.t 10),
      .gd 11 false (.mv 12 (.t 0)),
      .gd 11 false (.lns 13 (.t 12)),
      .gd 11 false (.bn 14 .gtr (.t 13) (.c (.i .i64 255))),
      .pk 15 (.t 11) (.c (.b true)) (.t 14)])
    (.i (.t 15) (.q (.o [.mv 2 (.c .ns),
      .mv 3 (.c (.b false))])
    (.r))
    (.k)))
    (.q (.o [.mv 16 (.t 0),
      .mv 5 (.t 16)])
    (.q (.b 0 (.l [4, 5] (.q (.q (.o [.mv 17 (.t 5),
      .bn 18 .neq (.t 17) (.c (.s []))])
    (.i (.t 18) (.k)
    (.x 0)))
    (.b 1 (.q (.o [.mv 19 (.t 5),
      .ix 20 (.t 19) (.c (.i .i64 0)),
      .ci 21 .i64 (.t 20),
      .mv 6 (.t 21)])
    (.q (.q (.o [.mv 22 (.t 6),
      .bn 23 .eql (.t 22) (.c (.i .i64 0))])
    (.i (.t 23) (.q (.q (.o [.mv 24 (.t 5),
      .lns 25 (.t 24),
      .bn 26 .neq (.t 25) (.c (.i .i64 1))])
    (.i (.t 26) (.q (.o [.mv 2 (.c .ns),
      .mv 3 (.c (.b false))])
    (.r))
    (.k)))
    (.q (.o [.mv 27 (.t 4),
      .mv 2 (.t 27),
      .mv 3 (.c (.b true))])
    (.r)))
    (.k)))
    (.q (.q (.o [.mv 28 (.t 6),
      .bn 29 .gtr (.t 28) (.c (.i .i64 63)),
      .mv 30 (.t 29),
      .gd 30 false (.mv 31 (.t 5)),
      .gd 30 false (.lns 32 (.t 31)),
      .gd 30 false (.mv 33 (.t 6)),
      .gd 30 false (.bn 34 .add (.t 33) (.c (.i .i64 1))),
      .gd 30 false (.bn 35 .lss (.t 32) (.t 34)),
      .pk 36 (.t 30) (.c (.b true)) (.t 35)])
    (.i (.t 36) (.q (.o [.mv 2 (.c .ns),
      .mv 3 (.c (.b false))])
    (.r))
    (.k)))
    (.q (.o [.mv 37 (.t 4),
      .mv 38 (.t 5),
      .mv 39 (.t 6),
      .bn 40 .add (.t 39) (.c (.i .i64 1)),
      .ss 41 (.t 38) (some (.c (.i .i64 1))) (some (.t 40)),
      .lbs 42 (.s []) 1 1 [(0, (.t 41))],
      .ap 43 (.t 37) (.t 42) 1 16,
      .mv 4 (.t 43)])
    (.o [.mv 44 (.t 5),
      .mv 45 (.t 6),
      .bn 46 .add (.t 45) (.c (.i .i64 1)),
      .ss 47 (.t 44) (some (.t 46)) none,
      .mv 5 (.t 47)])))))))))
    (.q (.o [.mv 2 (.c .ns),
      .mv 3 (.c (.b false))])
    (.r))))))⟩
abbrev n_spec_l01Split : Nat := 99
theorem k_spec_l01Split : chkF Go.Proofs.Tryd.prog c_spec_l01Split 99 = true := by kernel_rfl
/-- loop.example/s01858/spec.l02NameAt -/
def c_spec_l02NameAt : Fn := ⟨1, [(.t 2)],
    .q (.o [.mv 2 (.c (.s []))])
    (.q (.o [.mv 3 (.c (.i .i64 0))])
    (.q (.b 0 (.l [0, 3] (.q (.q (.o [.mv 5 (.t 3),
      .mv 6 (.t 0),
      .lns 7 (.t 6),
      .bn 8 .lss (.t 5) (.t 7),
      .mv 9 (.t 8),
      .gd 9 true (.mv 10 (.t 3)),
      .gd 9 true (.bn 11 .lss (.t 10) (.c (.i .i64 255))),
      .pk 12 (.t 9) (.t 11) (.c (.b false))])
    (.i (.t 12) (.k)
    (.x 0)))
    (.b 1 (.q (.o [.mv 13 (.t 0),
      .mv 14 (.t 3),
      .ix 15 (.t 13) (.t 14),
      .ci 16 .i64 (.t 15),
      .mv 4 (.t 16)])
    (.q (.q (.o [.mv 17 (.t 4),
      .bn 18 .eql (.t 17) (.c (.i .i64 0))])
    (.i (.t 18) (.q (.o [.mv 19 (.t 0),
      .mv 20 (.t 3),
      .bn 21 .add (.t 20) (.c (.i .i64 1)),
      .ss 22 (.t 19) none (some (.t 21)),
      .mv 2 (.t 22)])
    (.r))
    (.k)))
    (.q (.q (.o [.mv 23 (.t 4),
      .bn 24 .gtr (.t 23) (.c (.i .i64 63))])
    (.i (.t 24) (.q (.o [.mv 2 (.c (.s []))])
    (.r))
    (.k)))
    (.o [.mv 25 (.t 3),
      .mv 26 (.t 4),
      .bn 27 .add (.t 25) (.t 26),
      .bn 28 .add (.t 27) (.c (.i .i64 1)),
      .mv 3 (.t 28)]))))))))
    (.q (.o [.mv 2 (.c (.s []))])
    (.r))))⟩
abbrev n_spec_l02NameAt : Nat := 107
theorem k_spec_l02NameAt : chkF Go.Proofs.Tryd.prog c_spec_l02NameAt 107 = true := by kernel_rfl
/-- loop.example/s01858/impl.parsed$1 -/
def c_impl_parsed_1 : Fn := ⟨2, [(.t 2)],
    .q (.o [.mv 2 (.c (.s []))])
    (.q (.o [.ld 3 (.t 0) none,
      .ld 4 (.t 1) none,
      .ss 5 (.t 3) (some (.t 4)) none,
      .mv 2 (.t 5)])
    (.r))⟩
abbrev n_impl_parsed_1 : Nat := 119
theorem k_impl_parsed_1 : chkF Go.Proofs.Tryd.prog c_impl_parsed_1 119 = true := by kernel_rfl
/-- loop.example/s01858/impl.nameAt -/
def c_impl_nameAt : Fn := ⟨1, [(.t 2)],
    .q (.o [.mv 2 (.c (.i .i64 0))])
    (.q (.q (.o [.mv 3 (.c (.i .i64 0))])
    (.b 0 (.l [0, 3] (.q (.q (.o [.mv 5 (.t 3),
      .mv 6 (.t 0),
      .lns 7 (.t 6),
      .bn 8 .lss (.t 5) (.t 7)])
    (.i (.t 8) (.k)
    (.x 0)))
    (.b 1 (.q (.o [.mv 9 (.t 0),
      .mv 10 (.t 3),
      .ix 11 (.t 9) (.t 10),
      .ci 12 .i64 (.t 11),
      .mv 4 (.t 12)])
    (.q (.q (.o [.mv 13 (.t 4),
      .bn 14 .eql (.t 13) (.c (.i .i64 0))])
    (.i (.t 14) (.q (.q (.o [.mv 15 (.t 3),
      .bn 16 .add (.t 15) (.c (.i .i64 1)),
      .bn 17 .gtr (.t 16) (.c (.i .i64 255))])
    (.i (.t 17) (.q (.o [.mv 2 (.c (.i .i64 0))])
    (.r))
    (.k)))
    (.q (.o [.mv 18 (.t 3),
      .bn 19 .add (.t 18) (.c (.i .i64 1)),
      .mv 2 (.t 19)])
    (.r)))
    (.k)))
    (.q (.q (.o [.mv 20 (.t 4),
      .bn 21 .gtr (.t 20) (.c (.i .i64 63))])
    (.i (.t 21) (.q (.o [.mv 2 (.c (.i .i64 0))])
    (.r))
    (.k)))
    (.o [.mv 22 (.t 3),
      .mv 23 (.t 4),
      .bn 24 .add (.c (.i .i64 1)) (.t 23),
      .bn 25 .add (.t 22) (.t 24),
      .mv 3 (.t 25)])))))))))
    (.q (.o [.mv 2 (.c (.i .i64 0))])
    (.r)))⟩
abbrev n_impl_nameAt : Nat := 120
theorem k_impl_nameAt : chkF Go.Proofs.Tryd.prog c_impl_nameAt 120 = true := by kernel_rfl
/-- loop.example/s01858/impl.MapTypes -/
def c_impl_MapTypes : Fn := ⟨1, [(.t 2), (.t 3)],
    .q (.o [.mv 2 (.c .ns),
      .mv 3 (.c (.i .i64 0))])
    (.q (.o [.mv 4 (.c .ns)])
    (.q (.o [.mv 5 (.c (.i .i64 (-1)))])
    (.q (.q (.o [.mv 6 (.c (.i .i64 0))])
    (.b 0 (.l [0, 4, 5, 6] (.q (.q (.o [.mv 11 (.t 6),
      .mv 12 (.t 0),
      .lns 13 (.t 12),
      .bn 14 .lss (.t 11) (.t 13)])
    (.i (.t 14) (.k)
    (.x 0)))
    (.b 1 (.q (.q (.o [.mv 15 (.t 6),
      .bn 16 .add (.t 15) (.c (.i .i64 2)),
      .mv 17 (.t 0),
      .lns 18 (.t 17),
      .bn 19 .gtr (.t 16) (.t 18)])
    (.i (.t 19) (.q (.o [.mv 2 (.c .ns),
      .mv 3 (.c (.i .i64 7))])
    (.r))
    (.k)))
    (.q (.p [⟨.mv 20 (.t 0), [], false⟩,
      ⟨.mv 21 (.t 6), [], false⟩,
      ⟨.ix 22 (.t 20) (.t 21), [], false⟩,
      ⟨.ci 23 .i64 (.t 22), [], false⟩,
      ⟨.mv 24 (.t 0), [], false⟩,
      ⟨.mv 25 (.t 6), [], false⟩,
      ⟨.bn 26 .add (.t 25) (.c (.i .i64 1)), [], false⟩,
      ⟨.ix 27 (.t 24) (.t 26), [], false⟩,
      ⟨.ci 28 .i64 (.t 27), [], false⟩,
      ⟨.mv 7 (.t 23), [], false⟩,
      ⟨.mv 8 (.t 28), [], false⟩])
    (.q (.q (.o [.mv 29 (.t 7),
      .mv 30 (.t 5),
      .bn 31 .leq (.t 29) (.t 30),
      .mv 32 (.t 31),
      .gd 32 false (.mv 33 (.t 8)),
      .gd 32 false (.bn 34 .lss (.t 33) (.c (.i .i64 1))),
      .pk 35 (.t 32) (.c (.b true)) (.t 34),
      .mv 36 (.t 35),
      .gd 36 false (.mv 37 (.t 8)),
      .gd 36 false (.bn 38 .gtr (.t 37) (.c (.i .i64 32))),
      .pk 39 (.t 36) (.c (.b true)) (.t 38),
      .mv 40 (.t 39),
      .gd 40 false (.mv 41 (.t 6)),
      .gd 40 false (.bn 42 .add (.t 41) (.c (.i .i64 2))),
      .gd 40 false (.mv 43 (.t 8)),
      .gd 40 false (.bn 44 .add (.t 42) (.t 43)),
      .gd 40 false (.mv 45 (.t 0)),
      .gd 40 false (.lns 46 (.t 45)),
      .gd 40 false (.bn 47 .gtr (.t 44) (.t 46)),
      .pk 48 (.t 40) (.c (.b true)) (.t 47),
      .mv 49 (.t 48),
      .gd 49 false (.mv 50 (.t 0)),
      .gd 49 false (.mv 51 (.t 6)),
      .gd 49 false (.bn 52 .add (.t 51) (.c (.i .i64 1))),
      .gd 49 false (.mv 53 (.t 8)),
      .gd 49 false (.bn 54 .add (.t 52) (.t 53)),
      .gd 49 false (.ix 55 (.t 50) (.t 54)),
      .gd 49 false (.bn 56 .eql (.t 55) (.c (.i .u8 0))),
      .pk 57 (.t 49) (.c (.b true)) (.t 56)])
    (.i (.t 57) (.q (.o [.mv 2 (.c .ns),
      .mv 3 (.c (.i .i64 7))])
    (.r))
    (.k)))
    (.q (.o [.mv 58 (.t 7),
      .mv 5 (.t 58)])
    (.q (.q (.o [.mv 9 (.c (.i .i64 0))])
    (.b 2 (.l [0, 4, 5, 6, 7, 8, 9] (.q (.q (.o [.mv 59 (.t 9),
      .mv 60 (.t 8),
      .bn 61 .lss (.t 59) (.t 60)])
    (.i (.t 61) (.k)
    (.x 2)))
    (.q (.b 3 (.q (.o [.mv 10 (.c (.i .i64 0))])
    (.b 4 (.l [0, 4, 5, 6, 7, 8, 9, 10] (.q (.q (.o [.mv 64 (.t 10),
      .bn 65 .lss (.t 64) (.c (.i .i64 8))])
    (.i (.t 65) (.k)
    (.x 4)))
    (.q (.b 5 (.q (.o [.mv 68 (.t 0),
      .mv 69 (.t 6),
      .bn 70 .add (.t 69) (.c (.i .i64 2)),
      .mv 71 (.t 9),
      .bn 72 .add (.t 70) (.t 71),
      .ix 73 (.t 68) (.t 72),
      .mv 74 (.t 10),
      .bn 75 .sub (.c (.i .i64 7)) (.t 74),
      .bn 76 .shr (.t 73) (.t 75),
      .bn 77 .and (.t 76) (.c (.i .u8 1)),
      .bn 78 .eql (.t 77) (.c (.i .u8 1))])
    (.i (.t 78) (.o [.mv 79 (.t 4),
      .mv 80 (.t 7),
      .bn 81 .mul (.c (.i .i64 256)) (.t 80),
      .mv 82 (.t 9),
      .bn 83 .mul (.c (.i .i64 8)) (.t 82),
      .bn 84 .add (.t 81) (.t 83),
      .mv 85 (.t 10),
      .bn 86 .add (.t 84) (.t 85),
      .lbs 87 (.i .i64 0) 1 1 [(0, (.t 86))],
      .ap 88 (.t 79) (.t 87) 1 8,
      .mv 4 (.t 88)])
    (.k))))
    (.o [.mv 66 (.t 10),
      .bn 67 .add (.t 66) (.c (.i .i64 1)),
      .mv 10 (.t 67)])))))))
    (.o [.mv 62 (.t 9),
      .bn 63 .add (.t 62) (.c (.i .i64 1)),
      .mv 9 (.t 63)]))))))
    (.o [.mv 89 (.t 6),
      .mv 90 (.t 8),
      .bn 91 .add (.c (.i .i64 2)) (.t 90),
      .bn 92 .add (.t 89) (.t 91),
      .mv 6 (.t 92)])))))))))))
    (.q (.o [.mv 93 (.t 4),
      .mv 2 (.t 93),
      .mv 3 (.c (.i .i64 0))])
    (.r)))))⟩
abbrev n_impl_MapTypes : Nat := 121
theorem k_impl_MapTypes : chkF Go.Proofs.Tryd.prog c_impl_MapTypes 121 = true := by kernel_rfl
/-- loop.example/s01858/spec.CheckData -/
def c_spec_CheckData : Fn := ⟨2, [(.t 4)],
    .q (.o [.mv 4 (.c (.i .i64 0))])
    (.q (.q (.o [.mv 7 (.t 0),
      .bn 8 .lss (.t 7) (.c (.i .i64 0)),
      .mv 9 (.t 8),
      .gd 9 false (.mv 10 (.t 0)),
      .gd 9 false (.bn 11 .gtr (.t 10) (.c (.i .i64 65535))),
      .pk 12 (.t 9) (.c (.b true)) (.t 11)])
    (.i (.t 12) (.q (.o [.mv 4 (.c (.i .i64 6))])
    (.r))
    (.k)))
    (.q (.q (.o [.mv 13 (.t 1),
      .lns 14 (.t 13),
      .bn 15 .gtr (.t 14) (.c (.i .i64 65535))])
    (.i (.t 15) (.q (.o [.mv 4 (.c (.i .i64 7))])
    (.r))
    (.k)))
    (.q (.o [.mv 17 (.t 0),
      .cl (some 18) 126 [(.t 17)],
      .mv 19 (.t 1),
      .cl (some 20) 127 [(.t 18), (.t 19)],
      .mv 16 (.t 20),
      .ex 21 (.t 16) 0,
      .ex 22 (.t 16) 1,
      .mv 5 (.t 21),
      .mv 6 (.t 22)])
    (.q (.q (.o [.mv 23 (.t 6),
      .un 24 .not (.t 23)])
    (.i (.t 24) (.q (.o [.mv 4 (.c (.i .i64 7))])
    (.r))
    (.k)))
    (.q (.o [.mv 4 (.c (.i .i64 0))])
    (.r))))))⟩
abbrev n_spec_CheckData : Nat := 122
theorem k_spec_CheckData : chkF Go.Proofs.Tryd.prog c_spec_CheckData 122 = true := by kernel_rfl
/-- loop.example/s01858/spec.l02Form -/
def c_spec_l02Form : Fn := ⟨1, [(.t 2)],
    .q (.o [.mv 2 (.c (.s []))])
    (.q (.q (.o [.mv 3 (.t 0)])
    (.b 0 (.q (.o [.bn 5 .eql (.t 3) (.c (.i .i64 1)),
      .mv 4 (.t 5)])
    (.i (.t 4) (.q (.o [.mv 2 (.c (.s [98, 98, 98, 98]))])
    (.r))
    (.q (.q (.o [.bn 7 .eql (.t 3) (.c (.i .i64 2)),
      .mv 6 (.t 7)])
    (.i (.t 6) (.k)
    (.q (.o [.bn 8 .eql (.t 3) (.c (.i .i64 5)),
      .mv 6 (.t 8)])
    (.i (.t 6) (.k)
    (.q (.o [.bn 9 .eql (.t 3) (.c (.i .i64 12)),
      .mv 6 (.t 9)])
    (.i (.t 6) (.k)
    (.o [.bn 10 .eql (.t 3) (.c (.i .i64 39)),
      .mv 6 (.t 10)])))))))
    (.i (.t 6) (.q (.o [.mv 2 (.c (.s [110]))])
    (.r))
    (.q (.o [.bn 12 .eql (.t 3) (.c (.i .i64 6)),
      .mv 11 (.t 12)])
    (.i (.t 11) (.q (.o [.mv 2 (.c (.s [110, 110, 98, 98, 98, 98, 98, 98, 98, 98, 98, 98, 98, 98, 98, 98, 98, 98, 98, 98, 98, 98]))])
    (.r))
    (.q (.o [.bn 14 .eql (.t 3) (.c (.i .i64 13)),
      .mv 13 (.t 14)])
    (.i (.t 13) (.q (.o [.mv 2 (.c (.s [116, 116]))])
    (.r))
    (.q (.o [.bn 16 .eql (.t 3) (.c (.i .i64 15)),
      .mv 15 (.t 16)])
    (.i (.t 15) (.q (.o [.mv 2 (.c (.s [98, 98, 110]))])
    (.r))
    (.q (.o [.bn 18 .eql (.t 3) (.c (.i .i64 16)),
      .mv 17 (.t 18)])
    (.i (.t 17) (.q (.o [.mv 2 (.c (.s [115]))])
    (.r))
    (.q (.o [.bn 20 .eql (.t 3) (.c (.i .i64 28)),
      .mv 19 (.t 20)])
    (.i (.t 19) (.q (.o [.mv 2 (.c (.s [98, 98, 98, 98, 98, 98, 98, 98, 98, 98, 98, 98, 98, 98, 98, 98]))])
    (.r))
    (.q (.o [.bn 22 .eql (.t 3) (.c (.i .i64 33)),
      .mv 21 (.t 22)])
    (.i (.t 21) (.q (.o [.mv 2 (.c (.s [98, 98, 98, 98, 98, 98, 110]))])
    (.r))
    (.q (.o [.bn 24 .eql (.t 3) (.c (.i .i64 35)),
      .mv 23 (.t 24)])
    (.i (.t 23) (.q (.o [.mv 2 (.c (.s [98, 98, 98, 98, 116, 116, 116, 110]))])
    (.r))
    (.q (.o [.bn 26 .eql (.t 3) (.c (.i .i64 47)),
      .mv 25 (.t 26)])
    (.i (.t 25) (.q (.o [.mv 2 (.c (.s [110, 109]))])
    (.r))
    (.q (.o [.bn 28 .eql (.t 3) (.c (.i .i64 257)),
      .mv 27 (.t 28)])
    (.i (.t 27) (.q (.o [.mv 2 (.c (.s [98, 99]))])
    (.r))
    (.k)))))))))))))))))))))))))
    (.q (.o [.mv 2 (.c (.s [42]))])
    (.r)))⟩
abbrev n_spec_l02Form : Nat := 126
theorem k_spec_l02Form : chkF Go.Proofs.Tryd.prog c_spec_l02Form 126 = true := by kernel_rfl
/-- loop.example/s01858/spec.l02Parts -/
def c_spec_l02Parts : Fn := ⟨2, [(.t 4), (.t 5)],
    .q (.o [.mv 4 (.c .ns),
      .mv 5 (.c (.b false))])
    (.q (.o [.bs 10 (.s []) 1 0 [],
      .mv 6 (.t 10)])
    (.q (.q (.o [.mv 7 (.c (.i .i64 0))])
    (.b 0 (.l [0, 1, 6, 7] (.q (.q (.o [.mv 11 (.t 7),
      .mv 12 (.t 0),
      .lns 13 (.t 12),
      .bn 14 .lss (.t 11) (.t 13)])
    (.i (.t 14) (.k)
    (.x 0)))
    (.q (.b 1 (.q (.o [.mv 8 (.c (.s []))])
    (.q (.q (.o [.mv 17 (.t 0),
      .mv 18 (.t 7),
      .ix 19 (.t 17) (.t 18)])
    (.b 2 (.q (.o [.bn 21 .eql (.t 19) (.c (.i .u8 110)),
      .mv 20 (.t 21)])
    (.i (.t 20) (.o [.mv 22 (.t 1),
      .cl (some 23) 107 [(.t 22)],
      .mv 8 (.t 23)])
    (.q (.o [.bn 25 .eql (.t 19) (.c (.i .u8 98)),
      .mv 24 (.t 25)])
    (.i (.t 24) (.q (.o [.mv 26 (.t 1),
      .bn 27 .neq (.t 26) (.c (.s []))])
    (.i (.t 27) (.o [.mv 28 (.t 1),
      .ss 29 (.t 28) none (some (.c (.i .i64 1))),
      .mv 8 (.t 29)])
    (.k)))
    (.q (.o [.bn 31 .eql (.t 19) (.c (.i .u8 116)),
      .mv 30 (.t 31)])
    (.i (.t 30) (.o [.mv 32 (.t 1),
      .cl (some 33) 140 [(.t 32)],
      .mv 8 (.t 33)])
    (.q (.o [.bn 35 .eql (.t 19) (.c (.i .u8 115)),
      .mv 34 (.t 35)])
    (.i (.t 34) (.b 3 (.l [0, 1, 6, 7, 8] (.q (.q (.o [.mv 36 (.t 1),
      .mv 37 (.t 8),
      .lns 38 (.t 37),
      .ss 39 (.t 36) (some (.t 38)) none,
      .cl (some 40) 140 [(.t 39)],
      .bn 41 .neq (.t 40) (.c (.s []))])
    (.i (.t 41) (.k)
    (.x 3)))
    (.b 4 (.o [.mv 42 (.t 8),
      .mv 43 (.t 1),
      .mv 44 (.t 8),
      .lns 45 (.t 44),
      .ss 46 (.t 43) (some (.t 45)) none,
      .cl (some 47) 140 [(.t 46)],
      .bn 48 .add (.t 42) (.t 47),
      .mv 8 (.t 48)])))))
    (.q (.o [.bn 50 .eql (.t 19) (.c (.i .u8 99)),
      .mv 49 (.t 50)])
    (.i (.t 49) (.q (.o [.mv 51 (.t 1),
      .cl (some 52) 140 [(.t 51)],
      .mv 8 (.t 52)])
    (.q (.q (.o [.mv 53 (.t 8),
      .lns 54 (.t 53),
      .bn 55 .lss (.t 54) (.c (.i .i64 2)),
      .mv 56 (.t 55),
      .gd 56 false (.mv 57 (.t 8)),
      .gd 56 false (.lns 58 (.t 57)),
      .gd 56 false (.bn 59 .gtr (.t 58) (.c (.i .i64 16))),
      .pk 60 (.t 56) (.c (.b true)) (.t 59)])
    (.i (.t 60) (.q (.o [.mv 4 (.c .ns),
      .mv 5 (.c (.b false))])
    (.r))
    (.k)))
    (.q (.q (.o [.mv 9 (.c (.i .i64 1))])
    (.b 5 (.l [0, 1, 6, 7, 8, 9] (.q (.q (.o [.mv 61 (.t 9),
      .mv 62 (.t 8),
      .lns 63 (.t 62),
      .bn 64 .lss (.t 61) (.t 63)])
    (.i (.t 64) (.k)
    (.x 5)))
    (.q (.b 6 (.q (.o [.mv 67 (.t 8),
      .mv 68 (.t 9),
      .ix 69 (.t 67) (.t 68),
      .cl (some 70) 141 [(.t 69)],
      .un 71 .not (.t 70)])
    (.i (.t 71) (.q (.o [.mv 4 (.c .ns),
      .mv 5 (.c (.b false))])
    (.r))
    (.k))))
    (.o [.mv 65 (.t 9),
      .bn 66 .add (.t 65) (.c (.i .i64 1)),
      .mv 9 (.t 66)]))))))
    (.o [.mv 72 (.t 1),
      .mv 8 (.t 72)]))))
    (.q (.o [.bn 74 .eql (.t 19) (.c (.i .u8 109)),
      .mv 73 (.t 74)])
    (.i (.t 73) (.q (.q (.o [.mv 75 (.t 1),
      .cl (some 76) 142 [(.t 75)],
      .un 77 .not (.t 76)])
    (.i (.t 77) (.q (.o [.mv 4 (.c .ns),
      .mv 5 (.c (.b false))])
    (.r))
    (.k)))
    (.o [.mv 78 (.t 1),
      .mv 8 (.t 78)]))
    (.q (.o [.bn 80 .eql (.t 19) (.c (.i .u8 42)),
      .mv 79 (.t 80)])
    (.i (.t 79) (.o [.mv 81 (.t 1),
      .mv 8 (.t 81)])
    (.k)))))))))))))))))
    (.q (.q (.o [.mv 82 (.t 8),
      .bn 83 .eql (.t 82) (.c (.s [])),
      .mv 84 (.t 83),
      .gd 84 true (.mv 85 (.t 0)),
      .gd 84 true (.mv 86 (.t 7)),
      .gd 84 true (.ix 87 (.t 85) (.t 86)),
      .gd 84 true (.bn 88 .neq (.t 87) (.c (.i .u8 109))),
      .pk 89 (.t 84) (.t 88) (.c (.b false)),
      .mv 90 (.t 89),
      .gd 90 true (.mv 91 (.t 0)),
      .gd 90 true (.mv 92 (.t 7)),
      .gd 90 true (.ix 93 (.t 91) (.t 92)),
      .gd 90 true (.bn 94 .neq (.t 93) (.c (.i .u8 42))),
      .pk 95 (.t 90) (.t 94) (.c (.b false))])
    (.i (.t 95) (.q (.o [.mv 4 (.c .ns),
      .mv 5 (.c (.b false))])
    (.r))
    (.k)))
    (.q (.o [.mv 96 (.t 6),
      .mv 97 (.t 8),
      .lbs 98 (.s []) 1 1 [(0, (.t 97))],
      .ap 99 (.t 96) (.t 98) 1 16,
      .mv 6 (.t 99)])
    (.o [.mv 100 (.t 1),
      .mv 101 (.t 8),
      .lns 102 (.t 101),
      .ss 103 (.t 100) (some (.t 102)) none,
      .mv 1 (.t 103)]))))))
    (.o [.mv 15 (.t 7),
      .bn 16 .add (.t 15) (.c (.i .i64 1)),
      .mv 7 (.t 16)]))))))
    (.q (.o [.mv 104 (.t 6),
      .mv 105 (.t 1),
      .bn 106 .eql (.t 105) (.c (.s [])),
      .mv 4 (.t 104),
      .mv 5 (.t 106)])
    (.r))))⟩
abbrev n_spec_l02Parts : Nat := 127
theorem k_spec_l02Parts : chkF Go.Proofs.Tryd.prog c_spec_l02Parts 127 = true := by kernel_rfl
/-- loop.example/s01858/spec.l02Text -/
def c_spec_l02Text : Fn := ⟨1, [(.t 2)],
    .q (.o [.mv 2 (.c (.s []))])
    (.q (.q (.o [.mv 3 (.t 0),
      .bn 4 .eql (.t 3) (.c (.s [])),
      .mv 5 (.t 4),
      .gd 5 false (.mv 6 (.t 0)),
      .gd 5 false (.lns 7 (.t 6)),
      .gd 5 false (.mv 8 (.t 0)),
      .gd 5 false (.ix 9 (.t 8) (.c (.i .i64 0))),
      .gd 5 false (.ci 10 .i64 (.t 9)),
      .gd 5 false (.bn 11 .add (.t 10) (.c (.i .i64 1))),
      .gd 5 false (.bn 12 .lss (.t 7) (.t 11)),
      .pk 13 (.t 5) (.c (.b true)) (.t 12)])
    (.i (.t 13) (.q (.o [.mv 2 (.c (.s []))])
    (.r))
    (.k)))
    (.q (.o [.mv 14 (.t 0),
      .mv 15 (.t 0),
      .ix 16 (.t 15) (.c (.i .i64 0)),
      .ci 17 .i64 (.t 16),
      .bn 18 .add (.t 17) (.c (.i .i64 1)),
      .ss 19 (.t 14) none (some (.t 18)),
      .mv 2 (.t 19)])
    (.r)))⟩
abbrev n_spec_l02Text : Nat := 140
theorem k_spec_l02Text : chkF Go.Proofs.Tryd.prog c_spec_l02Text 140 = true := by kernel_rfl
/-- loop.example/s01858/spec.l02Alnum -/
def c_spec_l02Alnum : Fn := ⟨1, [(.t 2)],
    .q (.o [.mv 2 (.c (.b false))])
    (.q (.o [.mv 3 (.t 0),
      .bn 4 .geq (.t 3) (.c (.i .u8 48)),
      .mv 5 (.t 4),
      .gd 5 true (.mv 6 (.t 0)),
      .gd 5 true (.bn 7 .leq (.t 6) (.c (.i .u8 57))),
      .pk 8 (.t 5) (.t 7) (.c (.b false)),
      .mv 9 (.t 8),
      .gd 9 false (.mv 10 (.t 0)),
      .gd 9 false (.bn 11 .geq (.t 10) (.c (.i .u8 97))),
      .gd 9 false (.mv 12 (.t 11)),
      .gd 12 true (.mv 13 (.t 0)),
      .gd 12 true (.bn 14 .leq (.t 13) (.c (.i .u8 122))),
      .gd 9 false (.pk 15 (.t 12) (.t 14) (.c (.b false))),
      .pk 16 (.t 9) (.c (.b true)) (.t 15),
      .mv 17 (.t 16),
      .gd 17 false (.mv 18 (.t 0)),
      .gd 17 false (.bn 19 .geq (.t 18) (.c (.i .u8 65))),
      .gd 17 false (.mv 20 (.t 19)),
      .gd 20 true (.mv 21 (.t 0)),
      .gd 20 true (.bn 22 .leq (.t 21) (.c (.i .u8 90))),
      .gd 17 false (.pk 23 (.t 20) (.t 22) (.c (.b false))),
      .pk 24 (.t 17) (.c (.b true)) (.t 23),
      .mv 2 (.t 24)])
    (.r))⟩
abbrev n_spec_l02Alnum : Nat := 141
theorem k_spec_l02Alnum : chkF Go.Proofs.Tryd.prog c_spec_l02Alnum 141 = true := by kernel_rfl
/-- loop.example/s01858/spec.l02Map -/
def c_spec_l02Map : Fn := ⟨1, [(.t 2)],
    .q (.o [.mv 2 (.c (.b false))])
    (.q (.o [.mv 3 (.c (.i .i64 (-1)))])
    (.q (.b 0 (.l [0, 3] (.q (.q (.o [.mv 6 (.t 0),
      .bn 7 .neq (.t 6) (.c (.s []))])
    (.i (.t 7) (.k)
    (.x 0)))
    (.b 1 (.q (.q (.o [.mv 8 (.t 0),
      .lns 9 (.t 8),
      .bn 10 .lss (.t 9) (.c (.i .i64 2))])
    (.i (.t 10) (.q (.o [.mv 2 (.c (.b false))])
    (.r))
    (.k)))
    (.q (.o [.mv 11 (.t 0),
      .ix 12 (.t 11) (.c (.i .i64 0)),
      .ci 13 .i64 (.t 12),
      .mv 4 (.t 13)])
    (.q (.o [.mv 14 (.t 0),
      .ix 15 (.t 14) (.c (.i .i64 1)),
      .ci 16 .i64 (.t 15),
      .mv 5 (.t 16)])
    (.q (.q (.o [.mv 17 (.t 4),
      .mv 18 (.t 3),
      .bn 19 .leq (.t 17) (.t 18),
      .mv 20 (.t 19),
      .gd 20 false (.mv 21 (.t 5)),
      .gd 20 false (.bn 22 .lss (.t 21) (.c (.i .i64 1))),
      .pk 23 (.t 20) (.c (.b true)) (.t 22),
      .mv 24 (.t 23),
      .gd 24 false (.mv 25 (.t 5)),
      .gd 24 false (.bn 26 .gtr (.t 25) (.c (.i .i64 32))),
      .pk 27 (.t 24) (.c (.b true)) (.t 26),
      .mv 28 (.t 27),
      .gd 28 false (.mv 29 (.t 0)),
      .gd 28 false (.lns 30 (.t 29)),
      .gd 28 false (.mv 31 (.t 5)),
      .gd 28 false (.bn 32 .add (.t 31) (.c (.i .i64 2))),
      .gd 28 false (.bn 33 .lss (.t 30) (.t 32)),
      .pk 34 (.t 28) (.c (.b true)) (.t 33),
      .mv 35 (.t 34),
      .gd 35 false (.mv 36 (.t 0)),
      .gd 35 false (.mv 37 (.t 5)),
      .gd 35 false (.bn 38 .add (.t 37) (.c (.i .i64 1))),
      .gd 35 false (.ix 39 (.t 36) (.t 38)),
      .gd 35 false (.bn 40 .eql (.t 39) (.c (.i .u8 0))),
      .pk 41 (.t 35) (.c (.b true)) (.t 40)])
    (.i (.t 41) (.q (.o [.mv 2 (.c (.b false))])
    (.r))
    (.k)))
    (.q (.o [.mv 42 (.t 4),
      .mv 3 (.t 42)])
    (.o [.mv 43 (.t 0),
      .mv 44 (.t 5),
      .bn 45 .add (.t 44) (.c (.i .i64 2)),
      .ss 46 (.t 43) (some (.t 45)) none,
      .mv 0 (.t 46)]))))))))))
    (.q (.o [.mv 2 (.c (.b true))])
    (.r))))⟩
abbrev n_spec_l02Map : Nat := 142
theorem k_spec_l02Map : chkF Go.Proofs.Tryd.prog c_spec_l02Map 142 = true := by kernel_rfl
end Go.Vm

/- Data of records: the runs of what looks at names, texts, maps, forms. -/
namespace Go.Vm
set_option linter.unusedVariables false
set_option linter.unusedSimpArgs false
theorem i64b (b : UInt8) : IntKind.i64.wrap (b.toNat : Int) = (b.toNat : Int) := by have := b.toNat_lt; exact w64 (by omega) (by omega)
theorem getD_drop (s : List UInt8) (i k : Nat) : (s.drop i).getD k 0 = s.getD (i + k) 0 := by simp [List.getD, List.getElem?_drop]
theorem mapOk_at {s : List UInt8} {last : Int} (h : 2 ≤ s.length) : mapOk s last = if ((s.getD 0 0).toNat : Int) ≤ last ∨ (s.getD 1 0).toNat < 1 ∨ 32 < (s.getD 1 0).toNat ∨ s.length < (s.getD 1 0).toNat + 2 ∨ (s.getD ((s.getD 1 0).toNat + 1) 0).toNat = 0 then false else mapOk (s.drop ((s.getD 1 0).toNat + 2)) (s.getD 0 0).toNat := by
  match s, h with
  | w :: n :: r, _ =>
    rw [mapOk]
    simp only [List.getD_cons_zero, List.getD_cons_succ, List.length_cons, mapBad]
    by_cases hn : n.toNat < 1
    · simp [hn]
    · obtain ⟨k, hk⟩ : ∃ k, n.toNat = k + 1 := ⟨n.toNat - 1, by omega⟩
      simp only [hk, Nat.add_sub_cancel, List.getD_cons_succ, show k + 1 + 2 = (k + 1) + 1 + 1 from rfl, List.drop_succ_cons]
      congr 1
      simp only [Bool.or_eq_true, decide_eq_true_eq, eq_iff_iff]
      omega
theorem mapOk_short {s : List UInt8} {last : Int} (h : s.length < 2) : mapOk s last = decide (s = []) := by
  match s, h with
  | [], _ => rw [mapOk]; rfl
  | [x], _ => rw [mapOk]; simp
def T_alnum (C : Tab) (f : Nat) : Prop := ∀ (c : UInt8) (H : AH), C f [.i .u8 c.toNat] H = some (.b (alnum c), H)
def T_txt (C : Tab) (f : Nat) : Prop := ∀ (s : List UInt8) (H : AH), s.length ≤ 1099511627776 → C f [.s s] H = some (.s (txt s), H)
def T_nmS (C : Tab) (f : Nat) : Prop := ∀ (s : List UInt8) (H : AH), s.length ≤ 1099511627776 → C f [.s s] H = some (.s (s.take (nmAt s)), H)
def T_map (C : Tab) (f : Nat) : Prop := ∀ (s : List UInt8) (H : AH), s.length ≤ 1099511627776 → C f [.s s] H = some (.b (mapOk s (-1)), H)
def T_form (C : Tab) (f : Nat) : Prop := ∀ (t : Int) (H : AH), C f [.i .i64 t] H = some (.s (specForm t), H)
def T_nmI (C : Tab) (f : Nat) : Prop := ∀ (s : List UInt8) (H : AH), s.length ≤ 1099511627776 → C f [.s s] H = some (.i .i64 (nmAt s : Nat), H)
theorem txt_bad {s : List UInt8} (h : s = [] ∨ s.length < (s.getD 0 0).toNat + 1) : txt s = [] := by
  cases s with
  | nil => rfl
  | cons c r =>
    simp only [List.getD_cons_zero, List.length_cons] at h
    simp only [txt]
    rw [if_pos (by simp at h; omega)]
theorem txt_ok {s : List UInt8} (h : s ≠ []) (h2 : ¬ s.length < (s.getD 0 0).toNat + 1) : txt s = s.take ((s.getD 0 0).toNat + 1) := by
  cases s with
  | nil => exact absurd rfl h
  | cons c r =>
    simp only [List.getD_cons_zero, List.length_cons] at h2 ⊢
    simp only [txt, List.take_succ_cons]
    rw [if_neg (by omega)]
section
variable {C : Tab}
set_option maxHeartbeats 1000000 in
theorem r_alnum {c : UInt8} {H : AH} : Runs C c_spec_l02Alnum [.i .u8 c.toNat] H fun v H' => H' = H ∧ v = .b (alnum c) := by
  unfold Runs c_spec_l02Alnum
  have e : alnum c = ((decide ((48 : Int) ≤ c.toNat) && decide ((c.toNat : Int) ≤ 57)) || (decide ((97 : Int) ≤ c.toNat) && decide ((c.toNat : Int) ≤ 122)) || (decide ((65 : Int) ≤ c.toNat) && decide ((c.toNat : Int) ≤ 90))) := by
    unfold alnum
    rw [Bool.eq_iff_iff]
    simp only [Bool.or_eq_true, Bool.and_eq_true, decide_eq_true_eq]
    omega
  rw [e]
  by_cases h1 : (48 : Int) ≤ c.toNat <;> by_cases h2 : (c.toNat : Int) ≤ 57 <;> by_cases h3 : (97 : Int) ≤ c.toNat <;> by_cases h4 : (c.toNat : Int) ≤ 122 <;> by_cases h5 : (65 : Int) ≤ c.toNat <;> by_cases h6 : (c.toNat : Int) ≤ 90 <;>
  first
  | (exfalso; omega)
  | simp -implicitDefEqProofs only [bU, reduceIte, Nat.reduceEqDiff, reduceCtorEq, implies_true, forall_const, eq_self, Nat.reduceAdd, Nat.reduceLT, bne_self_eq_false, bT, eq_self, true_implies, false_implies, forall_const, if_true, if_false, Int.reduceToNat, Nat.reduceSub, Int.reduceLE, h1, h2, h3, h4, h5, h6, Bool.false_and, Bool.and_false, Bool.or_false, Bool.or_true, Bool.false_or, Bool.true_or, endK, rsC, rsV, resV]
theorem r_txt {s : List UInt8} {H : AH} (hs : s.length ≤ 1099511627776) : Runs C c_spec_l02Text [.s s] H fun v H' => H' = H ∧ v = .s (txt s) := by
  unfold Runs c_spec_l02Text
  by_cases h0 : s = []
  · rw [txt_bad (.inl h0)]
    have h0' : (s = []) = True := eq_true h0
    simp -implicitDefEqProofs only [bU, reduceIte, Nat.reduceEqDiff, reduceCtorEq, implies_true, forall_const, eq_self, Nat.reduceAdd, Nat.reduceLT, bne_self_eq_false, bT, eq_self, true_implies, false_implies, forall_const, if_true, if_false, Int.reduceToNat, Nat.reduceSub, Int.reduceLE, h0', endK, rsC, rsV, resV]
  · have hl := List.length_pos_iff.2 h0
    have hp : (0 : Int) < s.length := by omega
    have hb := (s.getD 0 0).toNat_lt
    have w0 := i64b (s.getD 0 0)
    have w1 : IntKind.i64.wrap (((s.getD 0 0).toNat : Int) + 1) = (((s.getD 0 0).toNat + 1 : Nat) : Int) := by rw [w64 (by omega) (by omega)]; rfl
    have z : (0 : Int) ≤ (((s.getD 0 0).toNat + 1 : Nat) : Int) := by omega
    by_cases h1 : (s.length : Int) < (((s.getD 0 0).toNat + 1 : Nat) : Int)
    · rw [txt_bad (.inr (by omega))]
      simp -implicitDefEqProofs only [bU, reduceIte, Nat.reduceEqDiff, reduceCtorEq, implies_true, forall_const, eq_self, Nat.reduceAdd, Nat.reduceLT, bne_self_eq_false, bT, eq_self, true_implies, false_implies, forall_const, if_true, if_false, Int.reduceToNat, Nat.reduceSub, Int.reduceLE, h0, hp, w0, w1, h1, endK, rsC, rsV, resV]
    · rw [txt_ok h0 (by omega)]
      have h2 : (((s.getD 0 0).toNat + 1 : Nat) : Int) ≤ s.length := by omega
      simp -implicitDefEqProofs only [bU, reduceIte, Nat.reduceEqDiff, reduceCtorEq, implies_true, forall_const, eq_self, Nat.reduceAdd, Nat.reduceLT, bne_self_eq_false, bT, eq_self, true_implies, false_implies, forall_const, if_true, if_false, Int.reduceToNat, Nat.reduceSub, Int.reduceLE, h0, hp, w0, w1, h1, h2, z, toNat_nat, endK, rsC, rsV, resV]
theorem r_nmS {s : List UInt8} {H : AH} (hs : s.length ≤ 1099511627776) : Runs C c_spec_l02NameAt [.s s] H fun v H' => H' = H ∧ v = .s (s.take (nmAt s)) := by
  unfold Runs c_spec_l02NameAt
  simp -implicitDefEqProofs only [bU, reduceIte, Nat.reduceEqDiff, reduceCtorEq, implies_true, forall_const, eq_self, Nat.reduceAdd, Nat.reduceLT, bne_self_eq_false, bT, eq_self, true_implies, false_implies, forall_const, if_true, if_false, Int.reduceToNat, Nat.reduceSub, Int.reduceLE]
  refine exec_loop (fun n e M => ∃ (i : Nat), i ≤ s.length + 64 ∧ n = s.length + 64 - i ∧ look e 0 = .s s ∧ look e 3 = .i .i64 i ∧ (∃ L g, M = ⟨L, g, H⟩) ∧ nmAt s = nmGo (s.drop i) i) ?_ (n := s.length + 64) ⟨0, by omega, by omega, rfl, rfl, ⟨_, _, rfl⟩, rfl⟩
  rintro n e M ⟨i, hi, rfl, q0, q3, ⟨L, g, rfl⟩, hn⟩
  by_cases h1 : (i : Int) < s.length
  · have hil : i < s.length := by omega
    by_cases h2 : (i : Int) < 255
    · have hp : (0 : Int) ≤ i := by omega
      have hb := (s.getD i 0).toNat_lt
      have w0 := i64b (s.getD i 0)
      have w1 : IntKind.i64.wrap ((i : Int) + 1) = ((i + 1 : Nat) : Int) := by rw [w64 (by omega) (by omega)]; rfl
      rw [nmGo_at hil] at hn
      by_cases h3 : (s.getD i 0).toNat = 0
      · rw [if_pos h3, if_neg (by omega)] at hn
        have h3' : (((s.getD i 0).toNat : Int) = 0) = True := eq_true (by omega)
        have z1 : (0 : Int) ≤ ((i + 1 : Nat) : Int) := by omega
        have z2 : ((i + 1 : Nat) : Int) ≤ s.length := by omega
        simp -implicitDefEqProofs only [bU, reduceIte, Nat.reduceEqDiff, reduceCtorEq, implies_true, forall_const, eq_self, Nat.reduceAdd, Nat.reduceLT, bne_self_eq_false, bT, eq_self, true_implies, false_implies, forall_const, if_true, if_false, Int.reduceToNat, Nat.reduceSub, Int.reduceLE, q0, q3, h1, h2, hp, w0, w1, toNat_nat, h3', z1, z2, hn, List.take_zero, endK, rsC, rsV, resV]
      · rw [if_neg h3] at hn
        have h3' : ¬ ((s.getD i 0).toNat : Int) = 0 := by omega
        by_cases h4 : 63 < (s.getD i 0).toNat
        · rw [if_pos h4] at hn
          have h4' : (63 : Int) < (s.getD i 0).toNat := by omega
          simp -implicitDefEqProofs only [bU, reduceIte, Nat.reduceEqDiff, reduceCtorEq, implies_true, forall_const, eq_self, Nat.reduceAdd, Nat.reduceLT, bne_self_eq_false, bT, eq_self, true_implies, false_implies, forall_const, if_true, if_false, Int.reduceToNat, Nat.reduceSub, Int.reduceLE, q0, q3, h1, h2, hp, w0, w1, toNat_nat, h3', h4', hn, List.take_zero, endK, rsC, rsV, resV]
        · rw [if_neg h4] at hn
          have h4' : ¬ (63 : Int) < (s.getD i 0).toNat := by omega
          have w2 : IntKind.i64.wrap ((i : Int) + ((s.getD i 0).toNat : Int)) = ((i + (s.getD i 0).toNat : Nat) : Int) := by rw [w64 (by omega) (by omega)]; omega
          have w3 : IntKind.i64.wrap (((i + (s.getD i 0).toNat : Nat) : Int) + 1) = ((i + 1 + (s.getD i 0).toNat : Nat) : Int) := by rw [w64 (by omega) (by omega)]; omega
          simp -implicitDefEqProofs only [bU, reduceIte, Nat.reduceEqDiff, reduceCtorEq, implies_true, forall_const, eq_self, Nat.reduceAdd, Nat.reduceLT, bne_self_eq_false, bT, eq_self, true_implies, false_implies, forall_const, if_true, if_false, Int.reduceToNat, Nat.reduceSub, Int.reduceLE, q0, q3, h1, h2, hp, w0, w2, w3, toNat_nat, h3', h4']
          exact ⟨s.length + 64 - (i + 1 + (s.getD i 0).toNat), by omega, i + 1 + (s.getD i 0).toNat, by omega, rfl, rfl, ⟨_, _, rfl⟩, hn⟩
    · rw [nmGo_far _ _ _ (Nat.le_refl _) (by omega)] at hn
      simp -implicitDefEqProofs only [bU, reduceIte, Nat.reduceEqDiff, reduceCtorEq, implies_true, forall_const, eq_self, Nat.reduceAdd, Nat.reduceLT, bne_self_eq_false, bT, eq_self, true_implies, false_implies, forall_const, if_true, if_false, Int.reduceToNat, Nat.reduceSub, Int.reduceLE, q0, q3, h1, h2, hn, List.take_zero, endK, rsC, rsV, resV]
  · rw [List.drop_of_length_le (by omega), nmGo_nil] at hn
    simp -implicitDefEqProofs only [bU, reduceIte, Nat.reduceEqDiff, reduceCtorEq, implies_true, forall_const, eq_self, Nat.reduceAdd, Nat.reduceLT, bne_self_eq_false, bT, eq_self, true_implies, false_implies, forall_const, if_true, if_false, Int.reduceToNat, Nat.reduceSub, Int.reduceLE, q0, q3, h1, hn, List.take_zero, endK, rsC, rsV, resV]
theorem r_nmI {s : List UInt8} {H : AH} (hs : s.length ≤ 1099511627776) : Runs C c_impl_nameAt [.s s] H fun v H' => H' = H ∧ v = .i .i64 (nmAt s : Nat) := by
  unfold Runs c_impl_nameAt
  simp -implicitDefEqProofs only [bU, reduceIte, Nat.reduceEqDiff, reduceCtorEq, implies_true, forall_const, eq_self, Nat.reduceAdd, Nat.reduceLT, bne_self_eq_false, bT, eq_self, true_implies, false_implies, forall_const, if_true, if_false, Int.reduceToNat, Nat.reduceSub, Int.reduceLE]
  refine exec_loop (fun n e M => ∃ (i : Nat), i ≤ s.length + 64 ∧ n = s.length + 64 - i ∧ look e 0 = .s s ∧ look e 3 = .i .i64 i ∧ (∃ L g, M = ⟨L, g, H⟩) ∧ nmAt s = nmGo (s.drop i) i) ?_ (n := s.length + 64) ⟨0, by omega, by omega, rfl, rfl, ⟨_, _, rfl⟩, rfl⟩
  rintro n e M ⟨i, hi, rfl, q0, q3, ⟨L, g, rfl⟩, hn⟩
  have z0 : ((0 : Nat) : Int) = 0 := rfl
  by_cases h1 : (i : Int) < s.length
  · have hil : i < s.length := by omega
    have hp : (0 : Int) ≤ i := by omega
    have hb := (s.getD i 0).toNat_lt
    have w0 := i64b (s.getD i 0)
    have w1 : IntKind.i64.wrap ((i : Int) + 1) = ((i + 1 : Nat) : Int) := by rw [w64 (by omega) (by omega)]; rfl
    rw [nmGo_at hil] at hn
    by_cases h3 : (s.getD i 0).toNat = 0
    · rw [if_pos h3] at hn
      have h3' : (((s.getD i 0).toNat : Int) = 0) = True := eq_true (by omega)
      by_cases h5 : 255 < i + 1
      · rw [if_pos h5] at hn
        have h5' : (255 : Int) < ((i + 1 : Nat) : Int) := by omega
        simp -implicitDefEqProofs only [bU, reduceIte, Nat.reduceEqDiff, reduceCtorEq, implies_true, forall_const, eq_self, Nat.reduceAdd, Nat.reduceLT, bne_self_eq_false, bT, eq_self, true_implies, false_implies, forall_const, if_true, if_false, Int.reduceToNat, Nat.reduceSub, Int.reduceLE, q0, q3, h1, hp, w0, w1, toNat_nat, h3', h5', hn, z0, endK, rsC, rsV, resV]
      · rw [if_neg h5] at hn
        have h5' : ¬ (255 : Int) < ((i + 1 : Nat) : Int) := by omega
        simp -implicitDefEqProofs only [bU, reduceIte, Nat.reduceEqDiff, reduceCtorEq, implies_true, forall_const, eq_self, Nat.reduceAdd, Nat.reduceLT, bne_self_eq_false, bT, eq_self, true_implies, false_implies, forall_const, if_true, if_false, Int.reduceToNat, Nat.reduceSub, Int.reduceLE, q0, q3, h1, hp, w0, w1, toNat_nat, h3', h5', hn, endK, rsC, rsV, resV]
    · rw [if_neg h3] at hn
      have h3' : ¬ ((s.getD i 0).toNat : Int) = 0 := by omega
      by_cases h4 : 63 < (s.getD i 0).toNat
      · rw [if_pos h4] at hn
        have h4' : (63 : Int) < (s.getD i 0).toNat := by omega
        simp -implicitDefEqProofs only [bU, reduceIte, Nat.reduceEqDiff, reduceCtorEq, implies_true, forall_const, eq_self, Nat.reduceAdd, Nat.reduceLT, bne_self_eq_false, bT, eq_self, true_implies, false_implies, forall_const, if_true, if_false, Int.reduceToNat, Nat.reduceSub, Int.reduceLE, q0, q3, h1, hp, w0, w1, toNat_nat, h3', h4', hn, z0, endK, rsC, rsV, resV]
      · rw [if_neg h4] at hn
        have h4' : ¬ (63 : Int) < (s.getD i 0).toNat := by omega
        have w2 : IntKind.i64.wrap (1 + ((s.getD i 0).toNat : Int)) = ((1 + (s.getD i 0).toNat : Nat) : Int) := by rw [w64 (by omega) (by omega)]; omega
        have w3 : IntKind.i64.wrap ((i : Int) + ((1 + (s.getD i 0).toNat : Nat) : Int)) = ((i + 1 + (s.getD i 0).toNat : Nat) : Int) := by rw [w64 (by omega) (by omega)]; omega
        simp -implicitDefEqProofs only [bU, reduceIte, Nat.reduceEqDiff, reduceCtorEq, implies_true, forall_const, eq_self, Nat.reduceAdd, Nat.reduceLT, bne_self_eq_false, bT, eq_self, true_implies, false_implies, forall_const, if_true, if_false, Int.reduceToNat, Nat.reduceSub, Int.reduceLE, q0, q3, h1, hp, w0, w2, w3, toNat_nat, h3', h4']
        exact ⟨s.length + 64 - (i + 1 + (s.getD i 0).toNat), by omega, i + 1 + (s.getD i 0).toNat, by omega, rfl, rfl, ⟨_, _, rfl⟩, hn⟩
  · rw [List.drop_of_length_le (by omega), nmGo_nil] at hn
    simp -implicitDefEqProofs only [bU, reduceIte, Nat.reduceEqDiff, reduceCtorEq, implies_true, forall_const, eq_self, Nat.reduceAdd, Nat.reduceLT, bne_self_eq_false, bT, eq_self, true_implies, false_implies, forall_const, if_true, if_false, Int.reduceToNat, Nat.reduceSub, Int.reduceLE, q0, q3, h1, hn, z0, endK, rsC, rsV, resV]
theorem r_map {s0 : List UInt8} {H : AH} (hs : s0.length ≤ 1099511627776) : Runs C c_spec_l02Map [.s s0] H fun v H' => H' = H ∧ v = .b (mapOk s0 (-1)) := by
  unfold Runs c_spec_l02Map
  simp -implicitDefEqProofs only [bU, reduceIte, Nat.reduceEqDiff, reduceCtorEq, implies_true, forall_const, eq_self, Nat.reduceAdd, Nat.reduceLT, bne_self_eq_false, bT, eq_self, true_implies, false_implies, forall_const, if_true, if_false, Int.reduceToNat, Nat.reduceSub, Int.reduceLE]
  refine exec_loop (fun n e M => ∃ (s : List UInt8) (last : Int), s.length ≤ s0.length ∧ n = s.length ∧ look e 0 = .s s ∧ look e 3 = .i .i64 last ∧ (∃ L g, M = ⟨L, g, H⟩) ∧ mapOk s0 (-1) = mapOk s last) ?_ (n := s0.length) ⟨s0, -1, by omega, by omega, rfl, rfl, ⟨_, _, rfl⟩, rfl⟩
  rintro n e M ⟨s, last, hi, rfl, q0, q3, ⟨L, g, rfl⟩, hn⟩
  by_cases h0 : s = []
  · have h0' : (s = []) = True := eq_true h0
    rw [h0, show mapOk [] last = true by rw [mapOk]] at hn
    simp -implicitDefEqProofs only [bU, reduceIte, Nat.reduceEqDiff, reduceCtorEq, implies_true, forall_const, eq_self, Nat.reduceAdd, Nat.reduceLT, bne_self_eq_false, bT, eq_self, true_implies, false_implies, forall_const, if_true, if_false, Int.reduceToNat, Nat.reduceSub, Int.reduceLE, q0, q3, h0', hn, endK, rsC, rsV, resV]
  by_cases h1 : (s.length : Int) < 2
  · rw [mapOk_short (s := s) (last := last) (by omega), decide_eq_false h0] at hn
    simp -implicitDefEqProofs only [bU, reduceIte, Nat.reduceEqDiff, reduceCtorEq, implies_true, forall_const, eq_self, Nat.reduceAdd, Nat.reduceLT, bne_self_eq_false, bT, eq_self, true_implies, false_implies, forall_const, if_true, if_false, Int.reduceToNat, Nat.reduceSub, Int.reduceLE, q0, q3, h0, h1, hn, endK, rsC, rsV, resV]
  rw [mapOk_at (s := s) (last := last) (by omega)] at hn
  have p0 : (0 : Int) < s.length := by omega
  have p1 : (1 : Int) < s.length := by omega
  have w0 := i64b (s.getD 0 0)
  have w1 := i64b (s.getD 1 0)
  have hb := (s.getD 1 0).toNat_lt
  have w2 : IntKind.i64.wrap (((s.getD 1 0).toNat : Int) + 2) = (((s.getD 1 0).toNat + 2 : Nat) : Int) := by rw [w64 (by omega) (by omega)]; rfl
  have w3 : IntKind.i64.wrap (((s.getD 1 0).toNat : Int) + 1) = (((s.getD 1 0).toNat + 1 : Nat) : Int) := by rw [w64 (by omega) (by omega)]; rfl
  by_cases a1 : ((s.getD 0 0).toNat : Int) ≤ last
  · rw [if_pos (.inl a1)] at hn
    simp -implicitDefEqProofs only [bU, reduceIte, Nat.reduceEqDiff, reduceCtorEq, implies_true, forall_const, eq_self, Nat.reduceAdd, Nat.reduceLT, bne_self_eq_false, bT, eq_self, true_implies, false_implies, forall_const, if_true, if_false, Int.reduceToNat, Nat.reduceSub, Int.reduceLE, q0, q3, h0, h1, p0, p1, w0, w1, a1, hn, endK, rsC, rsV, resV]
  by_cases a2 : ((s.getD 1 0).toNat : Int) < 1
  · rw [if_pos (.inr (.inl (by omega)))] at hn
    simp -implicitDefEqProofs only [bU, reduceIte, Nat.reduceEqDiff, reduceCtorEq, implies_true, forall_const, eq_self, Nat.reduceAdd, Nat.reduceLT, bne_self_eq_false, bT, eq_self, true_implies, false_implies, forall_const, if_true, if_false, Int.reduceToNat, Nat.reduceSub, Int.reduceLE, q0, q3, h0, h1, p0, p1, w0, w1, a1, a2, hn, endK, rsC, rsV, resV]
  by_cases a3 : (32 : Int) < ((s.getD 1 0).toNat : Int)
  · rw [if_pos (.inr (.inr (.inl (by omega))))] at hn
    simp -implicitDefEqProofs only [bU, reduceIte, Nat.reduceEqDiff, reduceCtorEq, implies_true, forall_const, eq_self, Nat.reduceAdd, Nat.reduceLT, bne_self_eq_false, bT, eq_self, true_implies, false_implies, forall_const, if_true, if_false, Int.reduceToNat, Nat.reduceSub, Int.reduceLE, q0, q3, h0, h1, p0, p1, w0, w1, a1, a2, a3, hn, endK, rsC, rsV, resV]
  by_cases a4 : (s.length : Int) < (((s.getD 1 0).toNat + 2 : Nat) : Int)
  · rw [if_pos (.inr (.inr (.inr (.inl (by omega)))))] at hn
    simp -implicitDefEqProofs only [bU, reduceIte, Nat.reduceEqDiff, reduceCtorEq, implies_true, forall_const, eq_self, Nat.reduceAdd, Nat.reduceLT, bne_self_eq_false, bT, eq_self, true_implies, false_implies, forall_const, if_true, if_false, Int.reduceToNat, Nat.reduceSub, Int.reduceLE, q0, q3, h0, h1, p0, p1, w0, w1, w2, a1, a2, a3, a4, hn, endK, rsC, rsV, resV]
  have p2 : (0 : Int) ≤ (((s.getD 1 0).toNat + 1 : Nat) : Int) := by omega
  have p3 : (((s.getD 1 0).toNat + 1 : Nat) : Int) < s.length := by omega
  by_cases a5 : ((s.getD ((s.getD 1 0).toNat + 1) 0).toNat : Int) = 0
  · rw [if_pos (.inr (.inr (.inr (.inr (by omega)))))] at hn
    have a5' : (((s.getD ((s.getD 1 0).toNat + 1) 0).toNat : Int) = 0) = True := eq_true a5
    simp -implicitDefEqProofs only [bU, reduceIte, Nat.reduceEqDiff, reduceCtorEq, implies_true, forall_const, eq_self, Nat.reduceAdd, Nat.reduceLT, bne_self_eq_false, bT, eq_self, true_implies, false_implies, forall_const, if_true, if_false, Int.reduceToNat, Nat.reduceSub, Int.reduceLE, q0, q3, h0, h1, p0, p1, p2, p3, w0, w1, w2, w3, toNat_nat, a1, a2, a3, a4, a5', hn, endK, rsC, rsV, resV]
  rw [if_neg (by omega)] at hn
  have p4 : (0 : Int) ≤ (((s.getD 1 0).toNat + 2 : Nat) : Int) := by omega
  have p5 : (((s.getD 1 0).toNat + 2 : Nat) : Int) ≤ s.length := by omega
  have e : (s.drop ((s.getD 1 0).toNat + 2)).take (s.length - ((s.getD 1 0).toNat + 2)) = s.drop ((s.getD 1 0).toNat + 2) := List.take_of_length_le (by simp)
  have hll : (s.drop ((s.getD 1 0).toNat + 2)).length < s.length := by simp; omega
  simp -implicitDefEqProofs only [bU, reduceIte, Nat.reduceEqDiff, reduceCtorEq, implies_true, forall_const, eq_self, Nat.reduceAdd, Nat.reduceLT, bne_self_eq_false, bT, eq_self, true_implies, false_implies, forall_const, if_true, if_false, Int.reduceToNat, Nat.reduceSub, Int.reduceLE, q0, q3, h0, h1, p0, p1, p2, p3, p4, p5, w0, w1, w2, w3, toNat_nat, a1, a2, a3, a4, a5, e, Int.le_refl]
  exact ⟨_, hll, s.drop ((s.getD 1 0).toNat + 2), _, by omega, rfl, rfl, rfl, ⟨_, _, rfl⟩, hn⟩
end
end Go.Vm

/- Data of records: forms, whole names, the specification's parts. -/
namespace Go.Vm
set_option linter.unusedVariables false
set_option linter.unusedSimpArgs false
section
variable {C : Tab}
theorem r_form {t : Int} {H : AH} : Runs C c_spec_l02Form [.i .i64 t] H fun v H' => H' = H ∧ v = .s (specForm t) := by
  unfold Runs c_spec_l02Form
  by_cases h1 : t = 1
  · subst h1
    simp -implicitDefEqProofs only [bU, reduceIte, Nat.reduceEqDiff, reduceCtorEq, implies_true, forall_const, eq_self, Nat.reduceAdd, Nat.reduceLT, bne_self_eq_false, bT, eq_self, true_implies, false_implies, forall_const, if_true, if_false, Int.reduceToNat, Nat.reduceSub, Int.reduceLE, Int.reduceEq, endK, rsC, rsV, resV]
    rfl
  by_cases h2 : t = 2
  · subst h2
    simp -implicitDefEqProofs only [bU, reduceIte, Nat.reduceEqDiff, reduceCtorEq, implies_true, forall_const, eq_self, Nat.reduceAdd, Nat.reduceLT, bne_self_eq_false, bT, eq_self, true_implies, false_implies, forall_const, if_true, if_false, Int.reduceToNat, Nat.reduceSub, Int.reduceLE, Int.reduceEq, endK, rsC, rsV, resV]
    rfl
  by_cases h5 : t = 5
  · subst h5
    simp -implicitDefEqProofs only [bU, reduceIte, Nat.reduceEqDiff, reduceCtorEq, implies_true, forall_const, eq_self, Nat.reduceAdd, Nat.reduceLT, bne_self_eq_false, bT, eq_self, true_implies, false_implies, forall_const, if_true, if_false, Int.reduceToNat, Nat.reduceSub, Int.reduceLE, Int.reduceEq, endK, rsC, rsV, resV]
    rfl
  by_cases h12 : t = 12
  · subst h12
    simp -implicitDefEqProofs only [bU, reduceIte, Nat.reduceEqDiff, reduceCtorEq, implies_true, forall_const, eq_self, Nat.reduceAdd, Nat.reduceLT, bne_self_eq_false, bT, eq_self, true_implies, false_implies, forall_const, if_true, if_false, Int.reduceToNat, Nat.reduceSub, Int.reduceLE, Int.reduceEq, endK, rsC, rsV, resV]
    rfl
  by_cases h39 : t = 39
  · subst h39
    simp -implicitDefEqProofs only [bU, reduceIte, Nat.reduceEqDiff, reduceCtorEq, implies_true, forall_const, eq_self, Nat.reduceAdd, Nat.reduceLT, bne_self_eq_false, bT, eq_self, true_implies, false_implies, forall_const, if_true, if_false, Int.reduceToNat, Nat.reduceSub, Int.reduceLE, Int.reduceEq, endK, rsC, rsV, resV]
    rfl
  by_cases h6 : t = 6
  · subst h6
    simp -implicitDefEqProofs only [bU, reduceIte, Nat.reduceEqDiff, reduceCtorEq, implies_true, forall_const, eq_self, Nat.reduceAdd, Nat.reduceLT, bne_self_eq_false, bT, eq_self, true_implies, false_implies, forall_const, if_true, if_false, Int.reduceToNat, Nat.reduceSub, Int.reduceLE, Int.reduceEq, endK, rsC, rsV, resV]
    rfl
  by_cases h13 : t = 13
  · subst h13
    simp -implicitDefEqProofs only [bU, reduceIte, Nat.reduceEqDiff, reduceCtorEq, implies_true, forall_const, eq_self, Nat.reduceAdd, Nat.reduceLT, bne_self_eq_false, bT, eq_self, true_implies, false_implies, forall_const, if_true, if_false, Int.reduceToNat, Nat.reduceSub, Int.reduceLE, Int.reduceEq, endK, rsC, rsV, resV]
    rfl
  by_cases h15 : t = 15
  · subst h15
    simp -implicitDefEqProofs only [bU, reduceIte, Nat.reduceEqDiff, reduceCtorEq, implies_true, forall_const, eq_self, Nat.reduceAdd, Nat.reduceLT, bne_self_eq_false, bT, eq_self, true_implies, false_implies, forall_const, if_true, if_false, Int.reduceToNat, Nat.reduceSub, Int.reduceLE, Int.reduceEq, endK, rsC, rsV, resV]
    rfl
  by_cases h16 : t = 16
  · subst h16
    simp -implicitDefEqProofs only [bU, reduceIte, Nat.reduceEqDiff, reduceCtorEq, implies_true, forall_const, eq_self, Nat.reduceAdd, Nat.reduceLT, bne_self_eq_false, bT, eq_self, true_implies, false_implies, forall_const, if_true, if_false, Int.reduceToNat, Nat.reduceSub, Int.reduceLE, Int.reduceEq, endK, rsC, rsV, resV]
    rfl
  by_cases h28 : t = 28
  · subst h28
    simp -implicitDefEqProofs only [bU, reduceIte, Nat.reduceEqDiff, reduceCtorEq, implies_true, forall_const, eq_self, Nat.reduceAdd, Nat.reduceLT, bne_self_eq_false, bT, eq_self, true_implies, false_implies, forall_const, if_true, if_false, Int.reduceToNat, Nat.reduceSub, Int.reduceLE, Int.reduceEq, endK, rsC, rsV, resV]
    rfl
  by_cases h33 : t = 33
  · subst h33
    simp -implicitDefEqProofs only [bU, reduceIte, Nat.reduceEqDiff, reduceCtorEq, implies_true, forall_const, eq_self, Nat.reduceAdd, Nat.reduceLT, bne_self_eq_false, bT, eq_self, true_implies, false_implies, forall_const, if_true, if_false, Int.reduceToNat, Nat.reduceSub, Int.reduceLE, Int.reduceEq, endK, rsC, rsV, resV]
    rfl
  by_cases h35 : t = 35
  · subst h35
    simp -implicitDefEqProofs only [bU, reduceIte, Nat.reduceEqDiff, reduceCtorEq, implies_true, forall_const, eq_self, Nat.reduceAdd, Nat.reduceLT, bne_self_eq_false, bT, eq_self, true_implies, false_implies, forall_const, if_true, if_false, Int.reduceToNat, Nat.reduceSub, Int.reduceLE, Int.reduceEq, endK, rsC, rsV, resV]
    rfl
  by_cases h47 : t = 47
  · subst h47
    simp -implicitDefEqProofs only [bU, reduceIte, Nat.reduceEqDiff, reduceCtorEq, implies_true, forall_const, eq_self, Nat.reduceAdd, Nat.reduceLT, bne_self_eq_false, bT, eq_self, true_implies, false_implies, forall_const, if_true, if_false, Int.reduceToNat, Nat.reduceSub, Int.reduceLE, Int.reduceEq, endK, rsC, rsV, resV]
    rfl
  by_cases h257 : t = 257
  · subst h257
    simp -implicitDefEqProofs only [bU, reduceIte, Nat.reduceEqDiff, reduceCtorEq, implies_true, forall_const, eq_self, Nat.reduceAdd, Nat.reduceLT, bne_self_eq_false, bT, eq_self, true_implies, false_implies, forall_const, if_true, if_false, Int.reduceToNat, Nat.reduceSub, Int.reduceLE, Int.reduceEq, endK, rsC, rsV, resV]
    rfl
  have e : specForm t = [42] := by simp [specForm, h1, h2, h5, h12, h39, h6, h13, h15, h16, h28, h33, h35, h47, h257]
  rw [e]
  simp -implicitDefEqProofs only [bU, reduceIte, Nat.reduceEqDiff, reduceCtorEq, implies_true, forall_const, eq_self, Nat.reduceAdd, Nat.reduceLT, bne_self_eq_false, bT, eq_self, true_implies, false_implies, forall_const, if_true, if_false, Int.reduceToNat, Nat.reduceSub, Int.reduceLE, h1, h2, h5, h12, h39, h6, h13, h15, h16, h28, h33, h35, h47, h257, endK, rsC, rsV, resV]
theorem r_split {s : List UInt8} {H : AH} (hs : s.length ≤ 1099511627776) : Runs C c_spec_l01Split [.s s] H (LabPost (nameL s) H) := by
  unfold Runs c_spec_l01Split
  by_cases h0 : s = []
  · subst h0
    have e : nameL [] = none := by rw [nameL, if_neg (by simp), labGo]
    rw [e]
    simp -implicitDefEqProofs only [bU, reduceIte, Nat.reduceEqDiff, reduceCtorEq, implies_true, forall_const, eq_self, Nat.reduceAdd, Nat.reduceLT, bne_self_eq_false, bT, eq_self, true_implies, false_implies, forall_const, if_true, if_false, Int.reduceToNat, Nat.reduceSub, Int.reduceLE, Int.reduceLT, Int.natCast_zero, endK, rsC, rsV, resV]
    exact ⟨.new _ _, .ns, rfl, rfl⟩
  have hl := List.length_pos_iff.2 h0
  have g1 : ¬ (s.length : Int) < 1 := by omega
  by_cases g2 : (255 : Int) < s.length
  · simp -implicitDefEqProofs only [bU, reduceIte, Nat.reduceEqDiff, reduceCtorEq, implies_true, forall_const, eq_self, Nat.reduceAdd, Nat.reduceLT, bne_self_eq_false, bT, eq_self, true_implies, false_implies, forall_const, if_true, if_false, Int.reduceToNat, Nat.reduceSub, Int.reduceLE, g1, g2, endK, rsC, rsV, resV]
    rw [nameL, if_pos (by omega)]
    exact ⟨.new _ _, .ns, rfl, rfl⟩
  have hnm : nameL s = labGo s := by rw [nameL, if_neg (by omega)]
  rw [hnm]
  simp -implicitDefEqProofs only [bU, reduceIte, Nat.reduceEqDiff, reduceCtorEq, implies_true, forall_const, eq_self, Nat.reduceAdd, Nat.reduceLT, bne_self_eq_false, bT, eq_self, true_implies, false_implies, forall_const, if_true, if_false, Int.reduceToNat, Nat.reduceSub, Int.reduceLE, g1, g2, fillEC, fillE, List.replicate]
  refine exec_loop (fun n e M => ∃ (r : List UInt8) (acc : List (List UInt8)) (o : AV) (H' : AH) (L : List Lv) (g : Nat), r.length ≤ s.length ∧ n = r.length ∧ look e 5 = .s r ∧ look e 4 = o ∧ M = ⟨L, g, H'⟩ ∧ acc.length + r.length ≤ s.length ∧ Mn H' 1 o (acc.map AV.s) ∧ Ext H H' ∧ (∀ j, j ∈ idA o → H.n ≤ j) ∧ labGo s = (labGo r).map fun q => acc ++ q) ?_ (n := s.length)
    ⟨s, [], .sl H.n 0 0, H.new (.arr true 0 1 []), _, _, by omega, by omega, rfl, rfl, rfl, by simp, ?_, .new _ _, by simp [idA], by simp⟩
  · rintro n e M ⟨r, acc, o, H', L, g, hi, rfl, q5, q4, rfl, hacc, hm, he, hid, hg⟩
    have ho := hm.sl.out
    cases r with
    | nil =>
      rw [show labGo [] = none by rw [labGo]] at hg
      rw [hg]
      simp -implicitDefEqProofs only [bU, reduceIte, Nat.reduceEqDiff, reduceCtorEq, implies_true, forall_const, eq_self, Nat.reduceAdd, Nat.reduceLT, bne_self_eq_false, bT, eq_self, true_implies, false_implies, forall_const, if_true, if_false, Int.reduceToNat, Nat.reduceSub, Int.reduceLE, q4, q5, endK, rsC, rsV, resV]
      exact ⟨he, .ns, rfl, rfl⟩
    | cons b q =>
      have hb := b.toNat_lt
      have w0 := i64b b
      have hp : (0 : Int) < ((q.length + 1 : Nat) : Int) := by omega
      simp only [List.length_cons] at hi hacc
      rw [labGo] at hg
      by_cases h0 : b.toNat = 0
      · have h0' : ((b.toNat : Int) = 0) = True := eq_true (by omega)
        rw [if_pos h0] at hg
        by_cases hq : q = []
        · subst hq
          rw [if_pos rfl, Option.map_some, List.append_nil] at hg
          rw [hg]
          simp -implicitDefEqProofs only [bU, reduceIte, Nat.reduceEqDiff, reduceCtorEq, implies_true, forall_const, eq_self, Nat.reduceAdd, Nat.reduceLT, bne_self_eq_false, bT, eq_self, true_implies, false_implies, forall_const, if_true, if_false, Int.reduceToNat, Nat.reduceSub, Int.reduceLE, q4, q5, hp, w0, h0', ho, Int.reduceLT, show ((1 : Nat) : Int) = 1 from rfl, endK, rsC, rsV, resV]
          exact ⟨he, o, rfl, hm, hid⟩
        · rw [if_neg hq, Option.map_none] at hg
          rw [hg]
          have hq1 : ¬ ((q.length + 1 : Nat) : Int) = 1 := by have := List.length_pos_iff.2 hq; omega
          simp -implicitDefEqProofs only [bU, reduceIte, Nat.reduceEqDiff, reduceCtorEq, implies_true, forall_const, eq_self, Nat.reduceAdd, Nat.reduceLT, bne_self_eq_false, bT, eq_self, true_implies, false_implies, forall_const, if_true, if_false, Int.reduceToNat, Nat.reduceSub, Int.reduceLE, q4, q5, hp, w0, h0', hq1, ho, endK, rsC, rsV, resV]
          exact ⟨he, .ns, rfl, rfl⟩
      · have h0' : ¬ (b.toNat : Int) = 0 := by omega
        rw [if_neg h0] at hg
        by_cases h1 : 63 < b.toNat
        · rw [dif_pos (.inl h1), Option.map_none] at hg
          rw [hg]
          have h1' : (63 : Int) < b.toNat := by omega
          simp -implicitDefEqProofs only [bU, reduceIte, Nat.reduceEqDiff, reduceCtorEq, implies_true, forall_const, eq_self, Nat.reduceAdd, Nat.reduceLT, bne_self_eq_false, bT, eq_self, true_implies, false_implies, forall_const, if_true, if_false, Int.reduceToNat, Nat.reduceSub, Int.reduceLE, q4, q5, hp, w0, h0', h1', ho, endK, rsC, rsV, resV]
          exact ⟨he, .ns, rfl, rfl⟩
        · have h1' : ¬ (63 : Int) < b.toNat := by omega
          have w1 : IntKind.i64.wrap ((b.toNat : Int) + 1) = ((b.toNat + 1 : Nat) : Int) := by rw [w64 (by omega) (by omega)]; rfl
          by_cases h2 : q.length < b.toNat
          · rw [dif_pos (.inr h2), Option.map_none] at hg
            rw [hg]
            have h2' : ((q.length + 1 : Nat) : Int) < ((b.toNat + 1 : Nat) : Int) := by omega
            simp -implicitDefEqProofs only [bU, reduceIte, Nat.reduceEqDiff, reduceCtorEq, implies_true, forall_const, eq_self, Nat.reduceAdd, Nat.reduceLT, bne_self_eq_false, bT, eq_self, true_implies, false_implies, forall_const, if_true, if_false, Int.reduceToNat, Nat.reduceSub, Int.reduceLE, q4, q5, hp, w0, w1, h0', h1', h2', ho, endK, rsC, rsV, resV]
            exact ⟨he, .ns, rfl, rfl⟩
          · rw [dif_neg (by omega)] at hg
            have h2' : ¬ ((q.length + 1 : Nat) : Int) < ((b.toNat + 1 : Nat) : Int) := by omega
            have z1 : (1 : Int) ≤ ((b.toNat + 1 : Nat) : Int) := by omega
            have z2 : (0 : Int) ≤ ((b.toNat + 1 : Nat) : Int) := by omega
            have z3 : ((b.toNat + 1 : Nat) : Int) ≤ ((q.length + 1 : Nat) : Int) := by omega
            have e1 : List.take (b.toNat + 1 - 1) q = q.take b.toNat := by rw [Nat.add_sub_cancel]
            have e2 : List.take (q.length + 1 - (b.toNat + 1)) (List.drop b.toNat q) = q.drop b.toNat := List.take_of_length_le (by simp <;> omega)
            obtain ⟨p1, o', H2, p2, p3, p4, p5, p6, p7, -⟩ := Mn.ap (by' := 16) hm (lit_srcS (t := 42) (g := g) (x := q.take b.toNat) (L := dropL (keepL [4, 5] L) 42) (H := H')) (by simp <;> omega)
            simp -implicitDefEqProofs only [bU, reduceIte, Nat.reduceEqDiff, reduceCtorEq, implies_true, forall_const, eq_self, Nat.reduceAdd, Nat.reduceLT, bne_self_eq_false, bT, eq_self, true_implies, false_implies, forall_const, if_true, if_false, Int.reduceToNat, Nat.reduceSub, Int.reduceLE, q4, q5, hp, w0, w1, h0', h1', h2', z1, z2, z3, toNat_nat, e1, e2, Int.le_refl, List.drop_succ_cons, List.drop_zero, fillEC, fillE, List.replicate, List.set]
            simp -implicitDefEqProofs only [bU, reduceIte, Nat.reduceEqDiff, reduceCtorEq, implies_true, forall_const, eq_self, Nat.reduceAdd, Nat.reduceLT, bne_self_eq_false, p1, p2, p3]
            refine ⟨(q.drop b.toNat).length, by simp <;> omega, q.drop b.toNat, acc ++ [q.take b.toNat], o', H2, _, _, by simp <;> omega, rfl, rfl, rfl, rfl, by simp <;> omega, ?_, he.put hid p5 p6, fun j hj => ?_, ?_⟩
            · rw [List.map_append]; exact p4
            · rcases p7 j hj with h | h
              · exact hid j h
              · have := he.n; omega
            · rw [hg, Option.map_map]
              cases labGo (q.drop b.toNat) <;> simp
  · exact Mn.own (xs := []) (by simp) new_at
def T_split (C : Tab) (f : Nat) : Prop := ∀ (s : List UInt8) (H : AH), s.length ≤ 1099511627776 → ∃ v H', C f [.s s] H = some (v, H') ∧ LabPost (nameL s) H v H'
def T_NameOKs (C : Tab) (f : Nat) : Prop := ∀ (s : List UInt8) (H : AH), s.length ≤ 1099511627776 → ∃ v H', C f [.s s] H = some (v, H') ∧ v = .b (nameL s).isSome ∧ Ext H H'
theorem r_NameOKs {s : List UInt8} {H : AH} (hL : T_split C n_spec_l01Split) (hs : s.length ≤ 1099511627776) : Runs C c_spec_NameOK [.s s] H fun v H' => v = .b (nameL s).isSome ∧ Ext H H' := by
  unfold Runs c_spec_NameOK
  obtain ⟨v, H', k1, k2, k3⟩ := hL s H hs
  cases hn : nameL s with
  | none =>
    rw [hn] at k3
    obtain ⟨o, rfl, ho⟩ := k3
    simp -implicitDefEqProofs only [bU, reduceIte, Nat.reduceEqDiff, reduceCtorEq, implies_true, forall_const, eq_self, Nat.reduceAdd, Nat.reduceLT, bne_self_eq_false, bT, eq_self, true_implies, false_implies, forall_const, if_true, if_false, Int.reduceToNat, Nat.reduceSub, Int.reduceLE, k1, ho, endK, rsC, rsV, resV]
    exact ⟨rfl, k2⟩
  | some ls =>
    rw [hn] at k3
    obtain ⟨o, rfl, hm, -⟩ := k3
    have ho := hm.sl.out
    simp -implicitDefEqProofs only [bU, reduceIte, Nat.reduceEqDiff, reduceCtorEq, implies_true, forall_const, eq_self, Nat.reduceAdd, Nat.reduceLT, bne_self_eq_false, bT, eq_self, true_implies, false_implies, forall_const, if_true, if_false, Int.reduceToNat, Nat.reduceSub, Int.reduceLE, k1, ho, endK, rsC, rsV, resV]
    exact ⟨rfl, k2⟩
end
end Go.Vm

/- Places within code: a part of a body, and the body with another part there. -/
namespace Go.Vm
set_option linter.unusedVariables false
set_option linter.unusedSimpArgs false
/-- 0 left, 1 right, 2 a block's or loop's body, 3 then, 4 else. -/
def sAt : S → List Nat → S
  | s, [] => s
  | .q a _, 0 :: p => sAt a p
  | .q _ b, 1 :: p => sAt b p
  | .b _ s, 2 :: p => sAt s p
  | .l _ s, 2 :: p => sAt s p
  | .i _ a _, 3 :: p => sAt a p
  | .i _ _ b, 4 :: p => sAt b p
  | s, _ :: _ => s
def sPut : S → List Nat → S → S
  | _, [], x => x
  | .q a b, 0 :: p, x => .q (sPut a p x) b
  | .q a b, 1 :: p, x => .q a (sPut b p x)
  | .b i s, 2 :: p, x => .b i (sPut s p x)
  | .l v s, 2 :: p, x => .l v (sPut s p x)
  | .i c a b, 3 :: p, x => .i c (sPut a p x) b
  | .i c a b, 4 :: p, x => .i c a (sPut b p x)
  | s, _ :: _, _ => s
theorem put_at : ∀ (p : List Nat) (s : S), sPut s p (sAt s p) = s
  | [], s => by cases s <;> rfl
  | n :: p, s => by
    cases s
    case q a b => match n with
      | 0 => simp only [sAt, sPut, put_at p]
      | 1 => simp only [sAt, sPut, put_at p]
      | n + 2 => simp only [sAt, sPut]
    case b i a => match n with
      | 2 => simp only [sAt, sPut, put_at p]
      | 0 | 1 => simp only [sAt, sPut]
      | n + 3 => simp only [sAt, sPut]
    case l v a => match n with
      | 2 => simp only [sAt, sPut, put_at p]
      | 0 | 1 => simp only [sAt, sPut]
      | n + 3 => simp only [sAt, sPut]
    case i c a b => match n with
      | 3 => simp only [sAt, sPut, put_at p]
      | 4 => simp only [sAt, sPut, put_at p]
      | 0 | 1 | 2 => simp only [sAt, sPut]
      | n + 5 => simp only [sAt, sPut]
    all_goals simp only [sAt, sPut]
/-- A part of a function's body, held as a name. -/
theorem cut_at (F : Fn) (p : List Nat) : ∃ B, B = sAt F.s p ∧ F.s = sPut F.s p B := ⟨_, rfl, (put_at p F.s).symm⟩
end Go.Vm

/- Data of records: the specification's parts. -/
namespace Go.Vm
set_option linter.unusedVariables false
set_option linter.unusedSimpArgs false
def partsBlk : S := sAt c_spec_l02Parts.s [1, 1, 0, 1, 2, 2, 1, 0, 2, 1, 0, 1]
theorem u8n {f : UInt8} {n : Nat} (h : f ≠ UInt8.ofNat n) (hn : n < 256) : ¬ (f.toNat : Int) = (n : Int) := fun e => h (UInt8.toNat_inj.1 (by rw [UInt8.toNat_ofNat']; omega))
def PartsPost (r : Option (List (UInt8 × List UInt8))) (H : AH) (v : AV) (H' : AH) : Prop := Ext H H' ∧ match r with
  | none => ∃ o, v = .tp [o, .b false] ∧ o.outs = true
  | some ps => ∃ o, v = .tp [o, .b true] ∧ Mn H' 1 o (ps.map fun p => AV.s p.2) ∧ ∀ i, i ∈ idA o → H.n ≤ i
def T_parts (C : Tab) (f : Nat) : Prop := ∀ (form d : List UInt8) (H : AH), form.length ≤ 1000 → d.length ≤ 1099511627776 → ∃ v H', C f [.s form, .s d] H = some (v, H') ∧ PartsPost (prs form d) H v H'
def T_CheckS (C : Tab) (f : Nat) : Prop := ∀ (t : Int) (d : List UInt8) (H : AH), d.length ≤ 1099511627776 → ∃ v H', C f [.i .i64 t, .s d] H = some (v, H') ∧ v = .i .i64 (chk t d) ∧ Ext H H'
theorem part_of (f : UInt8) (d : List UInt8) : part f d =
  if f = 110 then (if nmAt d = 0 then none else some (d.take (nmAt d)))
  else if f = 98 then (if d = [] then none else some (d.take 1))
  else if f = 116 then (if txt d = [] then none else some (txt d))
  else if f = 115 then (if txts d = [] then none else some (txts d))
  else if f = 99 then (if 2 ≤ (txt d).length ∧ (txt d).length ≤ 16 ∧ ((txt d).drop 1).all alnum = true then some d else none)
  else if f = 109 then (if mapOk d (-1) then some d else none)
  else if f = 42 then some d else none := rfl
theorem all_of {p : List UInt8} (h : ∀ j, 1 ≤ j → j < p.length → alnum (p.getD j 0) = true) : (p.drop 1).all alnum = true := by
  rw [List.all_eq_true]
  intro x hx
  obtain ⟨i, hi, rfl⟩ := List.getElem_of_mem hx
  simp only [List.length_drop] at hi
  have := h (i + 1) (by omega) (by omega)
  simpa [List.getD, List.getElem?_eq_getElem (show i + 1 < p.length by omega), Nat.add_comm] using this
theorem all_not {p : List UInt8} {k : Nat} (h1 : 1 ≤ k) (h2 : k < p.length) (h : alnum (p.getD k 0) = false) : (p.drop 1).all alnum = false := by
  rw [← Bool.not_eq_true, List.all_eq_true]
  intro hh
  have hm : p.getD k 0 ∈ p.drop 1 := by
    obtain ⟨j, rfl⟩ : ∃ j, k = j + 1 := ⟨k - 1, by omega⟩
    have e : p.getD (j + 1) 0 = (p.drop 1)[j]'(by simp; omega) := by
      simp [List.getD, List.getElem?_eq_getElem h2]
    rw [e]
    exact List.getElem_mem _
  rw [hh _ hm] at h
  cases h
section
variable {C : Tab}
set_option maxRecDepth 100000 in
theorem blk {f : UInt8} {d : List UInt8} {e : Env} {L : List Lv} {g : Nat} {H : AH} {κ : Kont} (hN : T_nmS C n_spec_l02NameAt) (hT : T_txt C n_spec_l02Text) (hA : T_alnum C n_spec_l02Alnum) (hM : T_map C n_spec_l02Map)
    (q1 : look e 1 = .s d) (q8 : look e 8 = .s []) (q19 : look e 19 = .i .u8 f.toNat) (hd : d.length ≤ 1099511627776)
    (hκ1 : ∀ e' L' g' p, (∀ t, t = 0 ∨ t = 6 ∨ t = 7 → look e' t = look e t) → look e' 1 = .s d → look e' 8 = .s p → (part f d = some p ∨ (p = [] ∧ part f d = none ∧ f ≠ 109 ∧ f ≠ 42)) → κ .nx e' ⟨L', g', H⟩)
    (hκ2 : ∀ e' L' g', look e' 4 = .ns → look e' 5 = .b false → part f d = none → κ .rt e' ⟨L', g', H⟩) : exec C partsBlk e ⟨L, g, H⟩ κ := by
  simp only [partsBlk, c_spec_l02Parts, sAt]
  have kN := fun H => hN d H hd
  have kT := fun H => hT d H hd
  have kM := fun H => hM d H hd
  have htl := txt_len d
  by_cases f1 : f = 110
  · subst f1
    have c0 : ((110 : UInt8).toNat : Int) = 110 := rfl
    simp -implicitDefEqProofs only [bU, reduceIte, Nat.reduceEqDiff, reduceCtorEq, implies_true, forall_const, eq_self, Nat.reduceAdd, Nat.reduceLT, bne_self_eq_false, bT, eq_self, true_implies, false_implies, forall_const, if_true, if_false, Int.reduceToNat, Nat.reduceSub, Int.reduceLE, q1, q8, q19, c0, Int.reduceEq, kN]
    refine hκ1 _ _ _ (d.take (nmAt d)) (fun t ht => by rcases ht with rfl | rfl | rfl <;> rfl) q1 rfl ?_
    rw [part_of, if_pos rfl]
    by_cases h0 : nmAt d = 0
    · exact .inr ⟨by rw [h0]; rfl, by rw [if_pos h0], by decide, by decide⟩
    · exact .inl (by rw [if_neg h0])
  have g1 := u8n (n := 110) f1 (by omega)
  by_cases f2 : f = 98
  · subst f2
    have c0 : ((98 : UInt8).toNat : Int) = 98 := rfl
    by_cases h0 : d = []
    · have h0' : (d = []) = True := eq_true h0
      simp -implicitDefEqProofs only [bU, reduceIte, Nat.reduceEqDiff, reduceCtorEq, implies_true, forall_const, eq_self, Nat.reduceAdd, Nat.reduceLT, bne_self_eq_false, bT, eq_self, true_implies, false_implies, forall_const, if_true, if_false, Int.reduceToNat, Nat.reduceSub, Int.reduceLE, q1, q8, q19, c0, Int.reduceEq, h0']
      refine hκ1 _ _ _ [] (fun t ht => by rcases ht with rfl | rfl | rfl <;> rfl) q1 q8 (.inr ⟨rfl, ?_, by decide, by decide⟩)
      rw [part_of, if_neg (by decide), if_pos rfl, if_pos h0]
    · have hl := List.length_pos_iff.2 h0
      have hl' : (1 : Int) ≤ d.length := by omega
      simp -implicitDefEqProofs only [bU, reduceIte, Nat.reduceEqDiff, reduceCtorEq, implies_true, forall_const, eq_self, Nat.reduceAdd, Nat.reduceLT, bne_self_eq_false, bT, eq_self, true_implies, false_implies, forall_const, if_true, if_false, Int.reduceToNat, Nat.reduceSub, Int.reduceLE, q1, q8, q19, c0, Int.reduceEq, h0, hl']
      refine hκ1 _ _ _ (d.take 1) (fun t ht => by rcases ht with rfl | rfl | rfl <;> rfl) q1 rfl (.inl ?_)
      rw [part_of, if_neg (by decide), if_pos rfl, if_neg h0]
  have g2 := u8n (n := 98) f2 (by omega)
  by_cases f3 : f = 116
  · subst f3
    have c0 : ((116 : UInt8).toNat : Int) = 116 := rfl
    simp -implicitDefEqProofs only [bU, reduceIte, Nat.reduceEqDiff, reduceCtorEq, implies_true, forall_const, eq_self, Nat.reduceAdd, Nat.reduceLT, bne_self_eq_false, bT, eq_self, true_implies, false_implies, forall_const, if_true, if_false, Int.reduceToNat, Nat.reduceSub, Int.reduceLE, q1, q8, q19, c0, Int.reduceEq, kT]
    refine hκ1 _ _ _ (txt d) (fun t ht => by rcases ht with rfl | rfl | rfl <;> rfl) q1 rfl ?_
    rw [part_of, if_neg (by decide), if_neg (by decide), if_pos rfl]
    by_cases h0 : txt d = []
    · exact .inr ⟨h0, by rw [if_pos h0], by decide, by decide⟩
    · exact .inl (by rw [if_neg h0])
  have g3 := u8n (n := 116) f3 (by omega)
  by_cases f4 : f = 115
  · subst f4
    have c0 : ((115 : UInt8).toNat : Int) = 115 := rfl
    simp -implicitDefEqProofs only [bU, reduceIte, Nat.reduceEqDiff, reduceCtorEq, implies_true, forall_const, eq_self, Nat.reduceAdd, Nat.reduceLT, bne_self_eq_false, bT, eq_self, true_implies, false_implies, forall_const, if_true, if_false, Int.reduceToNat, Nat.reduceSub, Int.reduceLE, q1, q8, q19, c0, Int.reduceEq]
    refine exec_loop (fun n e' M => ∃ (p : List UInt8) (L : List Lv) (g : Nat), p.length ≤ d.length ∧ n = d.length - p.length ∧ look e' 0 = look e 0 ∧ look e' 6 = look e 6 ∧ look e' 7 = look e 7 ∧ look e' 1 = .s d ∧ look e' 8 = .s p ∧ M = ⟨L, g, H⟩ ∧ txts d = p ++ txts (d.drop p.length)) ?_ (n := d.length)
      ⟨[], _, _, by simp, by simp, rfl, rfl, rfl, q1, q8, rfl, by simp⟩
    rintro n e1 M ⟨p, L, g, hp, rfl, r0, r6, r7, r1, r8, rfl, hx⟩
    have e1' : (d.drop p.length).take (d.length - p.length) = d.drop p.length := List.take_of_length_le (by simp)
    have kT' := fun H => hT (d.drop p.length) H (by simp; omega)
    have z1 : (0 : Int) ≤ p.length := by omega
    have z2 : ((p.length : Nat) : Int) ≤ d.length := by omega
    have hl2 := txt_len (d.drop p.length)
    simp only [List.length_drop] at hl2
    by_cases h0 : txt (d.drop p.length) = []
    · rw [txts_nil h0, List.append_nil] at hx
      have h0' : (txt (d.drop p.length) = []) = True := eq_true h0
      simp -implicitDefEqProofs only [bU, reduceIte, Nat.reduceEqDiff, reduceCtorEq, implies_true, forall_const, eq_self, Nat.reduceAdd, Nat.reduceLT, bne_self_eq_false, bT, eq_self, true_implies, false_implies, forall_const, if_true, if_false, Int.reduceToNat, Nat.reduceSub, Int.reduceLE, r0, r6, r7, r1, r8, z1, z2, toNat_nat, e1', kT', h0', Int.le_refl]
      refine hκ1 _ _ _ p (fun t ht => by rcases ht with rfl | rfl | rfl <;> rfl) rfl rfl ?_
      · rw [part_of, if_neg (by decide), if_neg (by decide), if_neg (by decide), if_pos rfl, hx]
        by_cases hp0 : p = []
        · exact .inr ⟨hp0, by rw [if_pos hp0], by decide, by decide⟩
        · exact .inl (by rw [if_neg hp0])
    · have hpos := List.length_pos_iff.2 h0
      have hcap : p.length + (txt (d.drop p.length)).length ≤ 9223372036854775807 := by omega
      simp -implicitDefEqProofs only [bU, reduceIte, Nat.reduceEqDiff, reduceCtorEq, implies_true, forall_const, eq_self, Nat.reduceAdd, Nat.reduceLT, bne_self_eq_false, bT, eq_self, true_implies, false_implies, forall_const, if_true, if_false, Int.reduceToNat, Nat.reduceSub, Int.reduceLE, r0, r6, r7, r1, r8, z1, z2, toNat_nat, e1', kT', h0, hcap, Int.le_refl]
      refine ⟨d.length - (p ++ txt (d.drop p.length)).length, by simp; omega, p ++ txt (d.drop p.length), _, _, by simp; omega, rfl, rfl, rfl, ?_⟩
      rw [txts_cons h0, ← List.append_assoc, List.drop_drop, ← List.length_append] at hx
      exact hx
  have g4 := u8n (n := 115) f4 (by omega)
  by_cases f5 : f = 99
  · subst f5
    have c0 : ((99 : UInt8).toNat : Int) = 99 := rfl
    have hpart : part 99 d = if 2 ≤ (txt d).length ∧ (txt d).length ≤ 16 ∧ ((txt d).drop 1).all alnum = true then some d else none := by
      rw [part_of, if_neg (by decide), if_neg (by decide), if_neg (by decide), if_neg (by decide), if_pos rfl]
    by_cases h2 : ((txt d).length : Int) < 2
    · simp -implicitDefEqProofs only [bU, reduceIte, Nat.reduceEqDiff, reduceCtorEq, implies_true, forall_const, eq_self, Nat.reduceAdd, Nat.reduceLT, bne_self_eq_false, bT, eq_self, true_implies, false_implies, forall_const, if_true, if_false, Int.reduceToNat, Nat.reduceSub, Int.reduceLE, q1, q8, q19, c0, Int.reduceEq, kT, h2]
      exact hκ2 _ _ _ rfl rfl (by rw [hpart, if_neg (by omega)])
    by_cases h16 : (16 : Int) < ((txt d).length : Int)
    · simp -implicitDefEqProofs only [bU, reduceIte, Nat.reduceEqDiff, reduceCtorEq, implies_true, forall_const, eq_self, Nat.reduceAdd, Nat.reduceLT, bne_self_eq_false, bT, eq_self, true_implies, false_implies, forall_const, if_true, if_false, Int.reduceToNat, Nat.reduceSub, Int.reduceLE, q1, q8, q19, c0, Int.reduceEq, kT, h2, h16]
      exact hκ2 _ _ _ rfl rfl (by rw [hpart, if_neg (by omega)])
    simp -implicitDefEqProofs only [bU, reduceIte, Nat.reduceEqDiff, reduceCtorEq, implies_true, forall_const, eq_self, Nat.reduceAdd, Nat.reduceLT, bne_self_eq_false, bT, eq_self, true_implies, false_implies, forall_const, if_true, if_false, Int.reduceToNat, Nat.reduceSub, Int.reduceLE, q1, q8, q19, c0, Int.reduceEq, kT, h2, h16]
    refine exec_loop (fun n e' M => ∃ (k : Nat) (L : List Lv) (g : Nat), 1 ≤ k ∧ k ≤ (txt d).length ∧ n = (txt d).length - k ∧ look e' 0 = look e 0 ∧ look e' 6 = look e 6 ∧ look e' 7 = look e 7 ∧ look e' 1 = .s d ∧ look e' 8 = .s (txt d) ∧ look e' 9 = .i .i64 k ∧ M = ⟨L, g, H⟩ ∧ ∀ j, 1 ≤ j → j < k → alnum ((txt d).getD j 0) = true) ?_ (n := (txt d).length - 1)
      ⟨1, _, _, by omega, by omega, rfl, rfl, rfl, rfl, q1, rfl, rfl, rfl, fun j h1 h2 => by omega⟩
    rintro n e1 M ⟨k, L, g, hk1, hk, rfl, r0, r6, r7, r1, r8, r9, rfl, hall⟩
    have z1 : (0 : Int) ≤ k := by omega
    have w1 : IntKind.i64.wrap ((k : Int) + 1) = ((k + 1 : Nat) : Int) := by rw [w64 (by omega) (by omega)]; rfl
    have kA := hA ((txt d).getD k 0)
    by_cases hlt : (k : Int) < (txt d).length
    · cases ha : alnum ((txt d).getD k 0) with
      | false =>
        rw [ha] at kA
        simp -implicitDefEqProofs only [bU, reduceIte, Nat.reduceEqDiff, reduceCtorEq, implies_true, forall_const, eq_self, Nat.reduceAdd, Nat.reduceLT, bne_self_eq_false, bT, eq_self, true_implies, false_implies, forall_const, if_true, if_false, Int.reduceToNat, Nat.reduceSub, Int.reduceLE, r0, r6, r7, r1, r8, r9, z1, hlt, toNat_nat, kA]
        exact hκ2 _ _ _ rfl rfl (by rw [hpart, if_neg (by rw [all_not hk1 (by omega) ha]; simp)])
      | true =>
        rw [ha] at kA
        simp -implicitDefEqProofs only [bU, reduceIte, Nat.reduceEqDiff, reduceCtorEq, implies_true, forall_const, eq_self, Nat.reduceAdd, Nat.reduceLT, bne_self_eq_false, bT, eq_self, true_implies, false_implies, forall_const, if_true, if_false, Int.reduceToNat, Nat.reduceSub, Int.reduceLE, r0, r6, r7, r1, r8, r9, z1, hlt, toNat_nat, kA, w1]
        refine ⟨(txt d).length - (k + 1), by omega, k + 1, _, _, by omega, by omega, rfl, rfl, rfl, fun j h1 h2 => ?_⟩
        by_cases hj : j = k
        · rw [hj]; exact ha
        · exact hall j h1 (by omega)
    · simp -implicitDefEqProofs only [bU, reduceIte, Nat.reduceEqDiff, reduceCtorEq, implies_true, forall_const, eq_self, Nat.reduceAdd, Nat.reduceLT, bne_self_eq_false, bT, eq_self, true_implies, false_implies, forall_const, if_true, if_false, Int.reduceToNat, Nat.reduceSub, Int.reduceLE, r0, r6, r7, r1, r8, r9, z1, hlt]
      refine hκ1 _ _ _ d (fun t ht => by rcases ht with rfl | rfl | rfl <;> rfl) rfl rfl (.inl ?_)
      · rw [hpart, if_pos ⟨by omega, by omega, all_of fun j h1 h2 => hall j h1 (by omega)⟩]
  have g5 := u8n (n := 99) f5 (by omega)
  by_cases f6 : f = 109
  · subst f6
    have c0 : ((109 : UInt8).toNat : Int) = 109 := rfl
    have hpart : part 109 d = if mapOk d (-1) then some d else none := by
      rw [part_of, if_neg (by decide), if_neg (by decide), if_neg (by decide), if_neg (by decide), if_neg (by decide), if_pos rfl]
    cases hm : mapOk d (-1) with
    | false =>
      rw [hm] at kM
      simp -implicitDefEqProofs only [bU, reduceIte, Nat.reduceEqDiff, reduceCtorEq, implies_true, forall_const, eq_self, Nat.reduceAdd, Nat.reduceLT, bne_self_eq_false, bT, eq_self, true_implies, false_implies, forall_const, if_true, if_false, Int.reduceToNat, Nat.reduceSub, Int.reduceLE, q1, q8, q19, c0, Int.reduceEq, kM]
      exact hκ2 _ _ _ rfl rfl (by rw [hpart, hm]; rfl)
    | true =>
      rw [hm] at kM
      simp -implicitDefEqProofs only [bU, reduceIte, Nat.reduceEqDiff, reduceCtorEq, implies_true, forall_const, eq_self, Nat.reduceAdd, Nat.reduceLT, bne_self_eq_false, bT, eq_self, true_implies, false_implies, forall_const, if_true, if_false, Int.reduceToNat, Nat.reduceSub, Int.reduceLE, q1, q8, q19, c0, Int.reduceEq, kM]
      exact hκ1 _ _ _ d (fun t ht => by rcases ht with rfl | rfl | rfl <;> rfl) q1 rfl (.inl (by rw [hpart, hm]; rfl))
  have g6 := u8n (n := 109) f6 (by omega)
  by_cases f7 : f = 42
  · subst f7
    have c0 : ((42 : UInt8).toNat : Int) = 42 := rfl
    simp -implicitDefEqProofs only [bU, reduceIte, Nat.reduceEqDiff, reduceCtorEq, implies_true, forall_const, eq_self, Nat.reduceAdd, Nat.reduceLT, bne_self_eq_false, bT, eq_self, true_implies, false_implies, forall_const, if_true, if_false, Int.reduceToNat, Nat.reduceSub, Int.reduceLE, q1, q8, q19, c0, Int.reduceEq]
    exact hκ1 _ _ _ d (fun t ht => by rcases ht with rfl | rfl | rfl <;> rfl) q1 rfl (.inl rfl)
  have g7 := u8n (n := 42) f7 (by omega)
  simp only [show ((110 : Nat) : Int) = 110 from rfl, show ((98 : Nat) : Int) = 98 from rfl, show ((116 : Nat) : Int) = 116 from rfl, show ((115 : Nat) : Int) = 115 from rfl, show ((99 : Nat) : Int) = 99 from rfl, show ((109 : Nat) : Int) = 109 from rfl, show ((42 : Nat) : Int) = 42 from rfl] at g1 g2 g3 g4 g5 g6 g7
  simp -implicitDefEqProofs only [bU, reduceIte, Nat.reduceEqDiff, reduceCtorEq, implies_true, forall_const, eq_self, Nat.reduceAdd, Nat.reduceLT, bne_self_eq_false, bT, eq_self, true_implies, false_implies, forall_const, if_true, if_false, Int.reduceToNat, Nat.reduceSub, Int.reduceLE, q1, q8, q19, g1, g2, g3, g4, g5, g6, g7]
  exact hκ1 _ _ _ [] (fun t ht => by rcases ht with rfl | rfl | rfl <;> rfl) q1 q8 (.inr ⟨rfl, by rw [part_of, if_neg f1, if_neg f2, if_neg f3, if_neg f4, if_neg f5, if_neg f6, if_neg f7], f6, f7⟩)
end
end Go.Vm

/- Data of records: the specification's parts and its check. -/
namespace Go.Vm
set_option linter.unusedVariables false
set_option linter.unusedSimpArgs false
section
variable {C : Tab}
theorem r_parts {form d : List UInt8} {H : AH} (hN : T_nmS C n_spec_l02NameAt) (hT : T_txt C n_spec_l02Text) (hA : T_alnum C n_spec_l02Alnum) (hM : T_map C n_spec_l02Map) (hf : form.length ≤ 1000) (hd : d.length ≤ 1099511627776) :
    Runs C c_spec_l02Parts [.s form, .s d] H (PartsPost (prs form d) H) := by
  unfold Runs
  obtain ⟨B, hB, hs⟩ := cut_at c_spec_l02Parts [1, 1, 0, 1, 2, 2, 1, 0, 2, 1, 0, 1]
  rw [hs]
  simp only [c_spec_l02Parts, sPut]
  have hB' : B = partsBlk := hB
  simp -implicitDefEqProofs only [bU, reduceIte, Nat.reduceEqDiff, reduceCtorEq, implies_true, forall_const, eq_self, Nat.reduceAdd, Nat.reduceLT, bne_self_eq_false, bT, eq_self, true_implies, false_implies, forall_const, if_true, if_false, Int.reduceToNat, Nat.reduceSub, Int.reduceLE, fillEC, fillE, List.replicate]
  refine exec_loop (fun n e M => ∃ (i : Nat) (d' : List UInt8) (acc : List (UInt8 × List UInt8)) (o : AV) (H' : AH) (L : List Lv) (g : Nat), i ≤ form.length ∧ n = form.length - i ∧ d'.length ≤ d.length ∧ look e 0 = .s form ∧ look e 1 = .s d' ∧ look e 6 = o ∧ look e 7 = .i .i64 i ∧ M = ⟨L, g, H'⟩ ∧ acc.length = i ∧ Mn H' 1 o (acc.map fun p => AV.s p.2) ∧ Ext H H' ∧ (∀ j, j ∈ idA o → H.n ≤ j) ∧ prs form d = (prs (form.drop i) d').map fun q => acc ++ q) ?_ (n := form.length)
    ⟨0, d, [], .sl H.n 0 0, H.new (.arr true 0 1 []), _, _, by omega, by omega, by omega, rfl, rfl, rfl, rfl, rfl, rfl, Mn.own (xs := []) (by simp) new_at, .new _ _, by simp [idA], by simp⟩
  rintro n e M ⟨i, d', acc, o, H', L, g, hi, rfl, hdl, q0, q1, q6, q7, rfl, hacc, hm, he, hid, hg⟩
  have ho := hm.sl.out
  have z1 : (0 : Int) ≤ i := by omega
  by_cases hlt : (i : Int) < form.length
  · have hil : i < form.length := by omega
    obtain ⟨f, hff⟩ : ∃ f, form.getD i 0 = f := ⟨_, rfl⟩
    have hdr : form.drop i = f :: form.drop (i + 1) := by rw [List.drop_eq_getElem_cons hil, ← hff]; simp [List.getD, hil]
    rw [hdr, prs] at hg
    simp -implicitDefEqProofs only [bU, reduceIte, Nat.reduceEqDiff, reduceCtorEq, implies_true, forall_const, eq_self, Nat.reduceAdd, Nat.reduceLT, bne_self_eq_false, bT, eq_self, true_implies, false_implies, forall_const, if_true, if_false, Int.reduceToNat, Nat.reduceSub, Int.reduceLE, q0, q1, q6, q7, z1, hlt, toNat_nat, hff]
    rw [hB']
    refine blk (d := d') (f := f) hN hT hA hM rfl rfl rfl (by omega) (fun e' L' g' p hk k1 k8 hp => ?_) (fun e' L' g' k4 k5 hp => ?_)
    · have k0 := hk 0 (.inl rfl)
      have k6 := hk 6 (.inr (.inl rfl))
      have k7 := hk 7 (.inr (.inr rfl))
      simp only [bU, reduceIte, Nat.reduceEqDiff, reduceCtorEq, implies_true, forall_const, eq_self, Nat.reduceAdd, Nat.reduceLT, bne_self_eq_false] at k0 k6 k7
      rcases hp with hp | ⟨rfl, hp, hn9, hn2⟩
      · rw [hp] at hg
        have hpl := part_len hp
        simp only at hg
        have w9 : IntKind.i64.wrap ((i : Int) + 1) = ((i + 1 : Nat) : Int) := by rw [w64 (by omega) (by omega)]; rfl
        have y1 : (0 : Int) ≤ p.length := by omega
        have y2 : (p.length : Int) ≤ d'.length := by omega
        have y3 : (d'.drop p.length).take (d'.length - p.length) = d'.drop p.length := List.take_of_length_le (by simp)
        have hz : p = [] → f ≠ 109 → f ≠ 42 → False := fun h0 h9 h2 => by
          subst h0
          rw [part_of] at hp
          by_cases c1 : f = 110
          · rw [if_pos c1] at hp
            by_cases c2 : nmAt d' = 0
            · rw [if_pos c2] at hp; cases hp
            · rw [if_neg c2] at hp
              injection hp with hp
              have hh := congrArg List.length hp
              have := nmAt_le d'
              rw [List.length_take, List.length_nil] at hh
              omega
          rw [if_neg c1] at hp
          by_cases c2 : f = 98
          · rw [if_pos c2] at hp
            cases d' <;> simp at hp
          rw [if_neg c2] at hp
          by_cases c3 : f = 116
          · rw [if_pos c3] at hp
            by_cases c4 : txt d' = []
            · rw [if_pos c4] at hp; cases hp
            · rw [if_neg c4] at hp
              injection hp with hp
              exact c4 hp
          rw [if_neg c3] at hp
          by_cases c5 : f = 115
          · rw [if_pos c5] at hp
            by_cases c4 : txts d' = []
            · rw [if_pos c4] at hp; cases hp
            · rw [if_neg c4] at hp
              injection hp with hp
              exact c4 hp
          rw [if_neg c5] at hp
          by_cases c6 : f = 99
          · rw [if_pos c6] at hp
            split at hp
            · rename_i hh
              injection hp with hp
              rw [hp] at hh
              simp [txt] at hh
            · cases hp
          rw [if_neg c6, if_neg h9, if_neg h2] at hp
          cases hp
        obtain ⟨p1, o', H2, p2, p3, p4, p5, p6, p7, -⟩ := Mn.ap (by' := 16) hm (lit_srcS (t := 98) (g := g') (x := p) (L := dropL L' 98) (H := H')) (by simp; omega)
        have hfin : (acc ++ [(f, p)]).length = i + 1 ∧ Mn H2 1 o' ((acc ++ [(f, p)]).map fun p => AV.s p.2) ∧ Ext H H2 ∧ (∀ j, j ∈ idA o' → H.n ≤ j) ∧ prs form d = (prs (form.drop (i + 1)) (d'.drop p.length)).map fun q => (acc ++ [(f, p)]) ++ q := by
          refine ⟨by simp [hacc], by rw [List.map_append]; exact p4, he.put hid p5 p6, fun j hj => ?_, ?_⟩
          · rcases p7 j hj with h | h
            · exact hid j h
            · have := he.n; omega
          · rw [hg, Option.map_map]
            cases prs (form.drop (i + 1)) (d'.drop p.length) <;> simp
        by_cases hp0 : p = []
        · subst hp0
          have hp0' : (([] : List UInt8) = []) = True := eq_self _
          have y4 : ((0 : Nat) : Int) ≤ ((0 : Nat) : Int) := Int.le_refl _
          have y5 : (0 : Int) ≤ ((0 : Nat) : Int) := Int.le_refl _
          have y6 : ((0 : Nat) : Int) ≤ (d'.length : Int) := by omega
          have y7 : d'.take d'.length = d' := List.take_length
          by_cases h9 : f = 109
          · subst h9
            have c0 : ((109 : UInt8).toNat : Int) = 109 := rfl
            simp -implicitDefEqProofs only [bU, reduceIte, Nat.reduceEqDiff, reduceCtorEq, implies_true, forall_const, eq_self, Nat.reduceAdd, Nat.reduceLT, bne_self_eq_false, bT, eq_self, true_implies, false_implies, forall_const, if_true, if_false, Int.reduceToNat, Nat.reduceSub, Int.reduceLE, k0, k1, k6, k7, k8, hp0', z1, hlt, toNat_nat, hff, c0, w9, y1, y2, y3, Int.le_refl, fillEC, fillE, List.replicate, List.set]
            simp -implicitDefEqProofs only [bU, reduceIte, Nat.reduceEqDiff, reduceCtorEq, implies_true, forall_const, eq_self, Nat.reduceAdd, Nat.reduceLT, bne_self_eq_false, bT, eq_self, true_implies, false_implies, forall_const, if_true, if_false, Int.reduceToNat, Nat.reduceSub, Int.reduceLE, k0, k1, k6, k7, k8, p1, p2, p3, w9, y5, y6, y7, Int.le_refl, toNat_nat]
            exact ⟨form.length - (i + 1), by omega, i + 1, d', _, o', H2, _, _, by omega, rfl, hdl, rfl, rfl, rfl, rfl, hfin⟩
          · have g9 := u8n (n := 109) h9 (by omega)
            have h2 : f = 42 := Classical.byContradiction fun h2 => hz rfl h9 h2
            subst h2
            have c0 : ((42 : UInt8).toNat : Int) = 42 := rfl
            simp -implicitDefEqProofs only [bU, reduceIte, Nat.reduceEqDiff, reduceCtorEq, implies_true, forall_const, eq_self, Nat.reduceAdd, Nat.reduceLT, bne_self_eq_false, bT, eq_self, true_implies, false_implies, forall_const, if_true, if_false, Int.reduceToNat, Nat.reduceSub, Int.reduceLE, k0, k1, k6, k7, k8, hp0', z1, hlt, toNat_nat, hff, c0, Int.reduceEq, w9, y1, y2, y3, Int.le_refl, fillEC, fillE, List.replicate, List.set]
            simp -implicitDefEqProofs only [bU, reduceIte, Nat.reduceEqDiff, reduceCtorEq, implies_true, forall_const, eq_self, Nat.reduceAdd, Nat.reduceLT, bne_self_eq_false, bT, eq_self, true_implies, false_implies, forall_const, if_true, if_false, Int.reduceToNat, Nat.reduceSub, Int.reduceLE, k0, k1, k6, k7, k8, p1, p2, p3, w9, y5, y6, y7, Int.le_refl, toNat_nat]
            exact ⟨form.length - (i + 1), by omega, i + 1, d', _, o', H2, _, _, by omega, rfl, hdl, rfl, rfl, rfl, rfl, hfin⟩
        · simp -implicitDefEqProofs only [bU, reduceIte, Nat.reduceEqDiff, reduceCtorEq, implies_true, forall_const, eq_self, Nat.reduceAdd, Nat.reduceLT, bne_self_eq_false, bT, eq_self, true_implies, false_implies, forall_const, if_true, if_false, Int.reduceToNat, Nat.reduceSub, Int.reduceLE, k0, k1, k6, k7, k8, hp0, w9, fillEC, fillE, List.replicate, List.set]
          simp -implicitDefEqProofs only [bU, reduceIte, Nat.reduceEqDiff, reduceCtorEq, implies_true, forall_const, eq_self, Nat.reduceAdd, Nat.reduceLT, bne_self_eq_false, bT, eq_self, true_implies, false_implies, forall_const, if_true, if_false, Int.reduceToNat, Nat.reduceSub, Int.reduceLE, k0, k1, k6, k7, k8, p1, p2, p3, w9, y1, y2, y3, Int.le_refl, toNat_nat]
          exact ⟨form.length - (i + 1), by omega, i + 1, d'.drop p.length, _, o', H2, _, _, by omega, rfl, by simp; omega, rfl, rfl, rfl, rfl, hfin⟩
      · rw [hp] at hg
        simp only [Option.map_none] at hg
        rw [hg]
        have g9 := u8n (n := 109) hn9 (by omega)
        have g2 := u8n (n := 42) hn2 (by omega)
        simp only [show ((109 : Nat) : Int) = 109 from rfl, show ((42 : Nat) : Int) = 42 from rfl] at g9 g2
        have hp0' : (([] : List UInt8) = []) = True := eq_self _
        simp -implicitDefEqProofs only [bU, reduceIte, Nat.reduceEqDiff, reduceCtorEq, implies_true, forall_const, eq_self, Nat.reduceAdd, Nat.reduceLT, bne_self_eq_false, bT, eq_self, true_implies, false_implies, forall_const, if_true, if_false, Int.reduceToNat, Nat.reduceSub, Int.reduceLE, k0, k1, k6, k7, k8, hp0', z1, hlt, toNat_nat, hff, g9, g2, endK, rsC, rsV, resV]
        exact ⟨he, .ns, rfl, rfl⟩
    · rw [hp] at hg
      simp only [Option.map_none] at hg
      rw [hg]
      simp -implicitDefEqProofs only [bU, reduceIte, Nat.reduceEqDiff, reduceCtorEq, implies_true, forall_const, eq_self, Nat.reduceAdd, Nat.reduceLT, bne_self_eq_false, bT, eq_self, true_implies, false_implies, forall_const, if_true, if_false, Int.reduceToNat, Nat.reduceSub, Int.reduceLE, k4, k5, endK, rsC, rsV, resV]
      exact ⟨he, .ns, rfl, rfl⟩
  · have hil : i = form.length := by omega
    rw [hil, List.drop_length, prs] at hg
    by_cases h0 : d' = []
    · rw [if_pos h0, Option.map_some, List.append_nil] at hg
      rw [hg]
      have h0' : (d' = []) = True := eq_true h0
      simp -implicitDefEqProofs only [bU, reduceIte, Nat.reduceEqDiff, reduceCtorEq, implies_true, forall_const, eq_self, Nat.reduceAdd, Nat.reduceLT, bne_self_eq_false, bT, eq_self, true_implies, false_implies, forall_const, if_true, if_false, Int.reduceToNat, Nat.reduceSub, Int.reduceLE, q0, q1, q6, q7, hlt, ho, h0', endK, rsC, rsV, resV]
      exact ⟨he, o, rfl, hm, hid⟩
    · rw [if_neg h0, Option.map_none] at hg
      rw [hg]
      simp -implicitDefEqProofs only [bU, reduceIte, Nat.reduceEqDiff, reduceCtorEq, implies_true, forall_const, eq_self, Nat.reduceAdd, Nat.reduceLT, bne_self_eq_false, bT, eq_self, true_implies, false_implies, forall_const, if_true, if_false, Int.reduceToNat, Nat.reduceSub, Int.reduceLE, q0, q1, q6, q7, hlt, ho, h0, endK, rsC, rsV, resV]
      exact ⟨he, o, rfl, ho⟩
theorem specForm_len (t : Int) : (specForm t).length ≤ 1000 := by
  unfold specForm
  repeat' split
  all_goals decide
theorem r_CheckS {t : Int} {d : List UInt8} {H : AH} (hF : T_form C n_spec_l02Form) (hP : T_parts C n_spec_l02Parts) (hd : d.length ≤ 1099511627776) : Runs C c_spec_CheckData [.i .i64 t, .s d] H fun v H' => v = .i .i64 (chk t d) ∧ Ext H H' := by
  unfold Runs c_spec_CheckData
  by_cases h1 : t < 0
  · rw [chk, if_pos (.inl h1)]
    simp -implicitDefEqProofs only [bU, reduceIte, Nat.reduceEqDiff, reduceCtorEq, implies_true, forall_const, eq_self, Nat.reduceAdd, Nat.reduceLT, bne_self_eq_false, bT, eq_self, true_implies, false_implies, forall_const, if_true, if_false, Int.reduceToNat, Nat.reduceSub, Int.reduceLE, h1, endK, rsC, rsV, resV]
    exact .refl _
  by_cases h2 : 65535 < t
  · rw [chk, if_pos (.inr h2)]
    simp -implicitDefEqProofs only [bU, reduceIte, Nat.reduceEqDiff, reduceCtorEq, implies_true, forall_const, eq_self, Nat.reduceAdd, Nat.reduceLT, bne_self_eq_false, bT, eq_self, true_implies, false_implies, forall_const, if_true, if_false, Int.reduceToNat, Nat.reduceSub, Int.reduceLE, h1, h2, endK, rsC, rsV, resV]
    exact .refl _
  rw [chk, if_neg (by omega)]
  by_cases h3 : (65535 : Int) < d.length
  · rw [if_pos (.inl (by omega))]
    simp -implicitDefEqProofs only [bU, reduceIte, Nat.reduceEqDiff, reduceCtorEq, implies_true, forall_const, eq_self, Nat.reduceAdd, Nat.reduceLT, bne_self_eq_false, bT, eq_self, true_implies, false_implies, forall_const, if_true, if_false, Int.reduceToNat, Nat.reduceSub, Int.reduceLE, h1, h2, h3, endK, rsC, rsV, resV]
    exact .refl _
  have k1 := hF t
  obtain ⟨v, H', k2, k3, k4⟩ := hP (specForm t) d H (specForm_len t) hd
  cases hp : prs (specForm t) d with
  | none =>
    rw [if_pos (.inr rfl)]
    rw [hp] at k4
    obtain ⟨o, rfl, ho⟩ := k4
    simp -implicitDefEqProofs only [bU, reduceIte, Nat.reduceEqDiff, reduceCtorEq, implies_true, forall_const, eq_self, Nat.reduceAdd, Nat.reduceLT, bne_self_eq_false, bT, eq_self, true_implies, false_implies, forall_const, if_true, if_false, Int.reduceToNat, Nat.reduceSub, Int.reduceLE, h1, h2, h3, k1, k2, ho, endK, rsC, rsV, resV]
    exact k3
  | some ps =>
    rw [if_neg (by simp; omega)]
    rw [hp] at k4
    obtain ⟨o, rfl, hm, -⟩ := k4
    have ho := hm.sl.out
    simp -implicitDefEqProofs only [bU, reduceIte, Nat.reduceEqDiff, reduceCtorEq, implies_true, forall_const, eq_self, Nat.reduceAdd, Nat.reduceLT, bne_self_eq_false, bT, eq_self, true_implies, false_implies, forall_const, if_true, if_false, Int.reduceToNat, Nat.reduceSub, Int.reduceLE, h1, h2, h3, k1, k2, ho, endK, rsC, rsV, resV]
    exact k3
end
end Go.Vm
