import Derived.Test.YtfamnghjibckbaaDoorRt3
import Derived.Test.YtfamnghjibckbaaDoorProg
import Derived.KernelRfl
import Derived.Laws.Bits64
/- Schemas: functions over slices of values without memory of their own (sizes, copies, comparisons): code with a callee left open, run once for all. -/
namespace Go.Vm
set_option linter.unusedVariables false
set_option linter.unusedSimpArgs false
def s_sz (z f : Nat) : Fn := ⟨2, [(.t 4)],
    .q (.o [.mv 4 (.c (.i .i64 0))])
    (.q (.o [.mv 6 (.t 1),
      .mv 7 (.t 0),
      .ln 8 (.t 7),
      .bn 9 .sub (.t 6) (.t 8),
      .mv 1 (.t 9)])
    (.q (.q (.o [.mv 10 (.t 1),
      .bn 11 .lss (.t 10) (.c (.i .i64 0))])
    (.i (.t 11) (.q (.o [.mv 4 (.c (.i .i64 (-1)))])
    (.r))
    (.k)))
    (.q (.q (.o [.mv 5 (.c (.i .i64 0))])
    (.b 0 (.l [0, 1, 5] (.q (.q (.o [.mv 12 (.t 5),
      .mv 13 (.t 0),
      .ln 14 (.t 13),
      .bn 15 .lss (.t 12) (.t 14)])
    (.i (.t 15) (.k)
    (.x 0)))
    (.q (.b 1 (.q (.o [.mv 18 (.t 0),
      .mv 19 (.t 5),
      .ia 20 (.t 18) (.t 19) z,
      .ld 21 (.t 20) (some z),
      .mv 22 (.t 1),
      .cl (some 23) f [(.t 21), (.t 22)],
      .mv 1 (.t 23)])
    (.q (.o [.mv 24 (.t 1),
      .bn 25 .lss (.t 24) (.c (.i .i64 0))])
    (.i (.t 25) (.q (.o [.mv 4 (.c (.i .i64 (-1)))])
    (.r))
    (.k)))))
    (.o [.mv 16 (.t 5),
      .bn 17 .add (.t 16) (.c (.i .i64 1)),
      .mv 5 (.t 17)]))))))
    (.q (.o [.mv 26 (.t 1),
      .mv 4 (.t 26)])
    (.r)))))⟩
def s_to (z by' f : Nat) (zero : AV) : Fn := ⟨1, [(.t 2)],
    .q (.o [.mv 2 (.c .ns)])
    (.q (.o [.mv 5 (.t 0),
      .ln 6 (.t 5),
      .mk 7 zero z by' (.t 6),
      .mv 3 (.t 7)])
    (.q (.q (.o [.mv 4 (.c (.i .i64 0))])
    (.b 0 (.l [0, 3, 4] (.q (.q (.o [.mv 8 (.t 4),
      .mv 9 (.t 0),
      .ln 10 (.t 9),
      .bn 11 .lss (.t 8) (.t 10)])
    (.i (.t 11) (.k)
    (.x 0)))
    (.q (.b 1 (.o [.mv 14 (.t 3),
      .mv 15 (.t 4),
      .mv 16 (.t 0),
      .mv 17 (.t 4),
      .ia 18 (.t 16) (.t 17) z,
      .ld 19 (.t 18) (some z),
      .cl (some 20) f [(.t 19)],
      .ia 21 (.t 14) (.t 15) z,
      .st (.t 21) (.t 20) z]))
    (.o [.mv 12 (.t 4),
      .bn 13 .add (.t 12) (.c (.i .i64 1)),
      .mv 4 (.t 13)]))))))
    (.q (.o [.mv 22 (.t 3),
      .mv 2 (.t 22)])
    (.r))))⟩
def s_eq (z f : Nat) : Fn := ⟨2, [(.t 4)],
    .q (.o [.mv 4 (.c (.b false))])
    (.q (.q (.o [.mv 6 (.t 0),
      .ln 7 (.t 6),
      .mv 8 (.t 1),
      .ln 9 (.t 8),
      .bn 10 .neq (.t 7) (.t 9)])
    (.i (.t 10) (.q (.o [.mv 4 (.c (.b false))])
    (.r))
    (.k)))
    (.q (.q (.o [.mv 5 (.c (.i .i64 0))])
    (.b 0 (.l [0, 1, 5] (.q (.q (.o [.mv 11 (.t 5),
      .mv 12 (.t 0),
      .ln 13 (.t 12),
      .bn 14 .lss (.t 11) (.t 13)])
    (.i (.t 14) (.k)
    (.x 0)))
    (.q (.b 1 (.q (.p [⟨.mv 17 (.t 0), [], false⟩,
      ⟨.mv 18 (.t 5), [], false⟩,
      ⟨.ia 19 (.t 17) (.t 18) z, [], false⟩,
      ⟨.ld 20 (.t 19) (some z), [], false⟩,
      ⟨.mv 21 (.t 1), [], false⟩,
      ⟨.mv 22 (.t 5), [], false⟩,
      ⟨.ia 23 (.t 21) (.t 22) z, [], false⟩,
      ⟨.ld 24 (.t 23) (some z), [], false⟩,
      ⟨.cl (some 25) f [(.t 20), (.t 24)], [], false⟩,
      ⟨.un 26 .not (.t 25), [], false⟩])
    (.i (.t 26) (.q (.o [.mv 4 (.c (.b false))])
    (.r))
    (.k))))
    (.o [.mv 15 (.t 5),
      .bn 16 .add (.t 15) (.c (.i .i64 1)),
      .mv 5 (.t 16)]))))))
    (.q (.o [.mv 4 (.c (.b true))])
    (.r))))⟩
/-- How values without memory of their own are laid: always as so many cells together. -/
structure Enc (α : Type) where
  z : Nat
  fn : α → List AV
  len : ∀ x, (fn x).length = z
def Enc.v {α : Type} (E : Enc α) (x : α) : AV := .ag (E.fn x)
section
variable {C : Tab} {α : Type} {E : Enc α}
abbrev Sx (H : AH) (E : Enc α) (a : AV) (xs : List α) : Prop := Sl H E.z a (xs.map E.v)
abbrev Mx (H : AH) (E : Enc α) (a : AV) (xs : List α) : Prop := Mn H E.z a (xs.map E.v)
theorem Enc.out (x : α) : (E.v x).outs = true := rfl
theorem Enc.cells (x : α) : (E.v x).cells.length = E.z := E.len x
theorem enc_at {xs : List α} {i : Nat} (h : i < xs.length) : (xs.map E.v).getD i .u = E.v xs[i] := by simp [List.getD, h]
theorem part_v (x : α) : partOf (E.v x).cells 0 (some E.z) = E.v x := by
  simp only [partOf, List.drop_zero, Enc.v, AV.cells]
  rw [List.take_of_length_le (Nat.le_of_eq (E.len x))]
theorem Sx.ia {H : AH} {a : AV} {xs : List α} (h : Sx H E a xs) {j : Int} (h0 : 0 ≤ j) (hj : j < xs.length) (L : List Lv) (g : Nat) (hl : j.toNat < xs.length) : slZ H E.z a ∧ iaC j a ∧ ldC ⟨L, g, H⟩ (some E.z) (iaV j.toNat a) ∧ ldX ⟨L, g, H⟩ (some E.z) (iaV j.toNat a) = E.v (xs[j.toNat]) := by
  obtain ⟨h1, h2, -, h4⟩ := Sl.ia h h0 (by simpa using hj)
  have := h4 L g 0 (some E.z) (by rw [enc_at hl]; simp [partFits, Enc.cells])
  rw [fa0, enc_at hl, part_v] at this
  exact ⟨h1, h2, this.1, this.2⟩
/-- An element, read at once. -/
theorem Sx.at' {H : AH} {a : AV} {xs : List α} (h : Sx H E a xs) {j : Nat} (hj : j < xs.length) : slZ H E.z a ∧ iaC (j : Int) a ∧ (∀ (L : List Lv) (g : Nat), ldC ⟨L, g, H⟩ (some E.z) (iaV j a)) ∧ ∀ (L : List Lv) (g : Nat), ldX ⟨L, g, H⟩ (some E.z) (iaV j a) = E.v (xs[j]) := by
  obtain ⟨h1, h2, -, -⟩ := h.ia (j := j) (by omega) (by omega) [] 0 hj
  exact ⟨h1, h2, fun L g => (h.ia (j := j) (by omega) (by omega) L g hj).2.2.1, fun L g => (h.ia (j := j) (by omega) (by omega) L g hj).2.2.2⟩
/-- One field of an element. -/
theorem Sx.fd {H : AH} {a : AV} {xs : List α} (h : Sx H E a xs) {j : Int} (h0 : 0 ≤ j) (hj : j < xs.length) {off : Nat} (ho : off < E.z) (L : List Lv) (g : Nat) (hl : j.toNat < xs.length) : slZ H E.z a ∧ iaC j a ∧ faC (iaV j.toNat a) ∧ ldC ⟨L, g, H⟩ none (faV off (iaV j.toNat a)) ∧ ldX ⟨L, g, H⟩ none (faV off (iaV j.toNat a)) = (E.fn (xs[j.toNat])).getD off .u := by
  obtain ⟨h1, h2, h3, h4⟩ := Sl.ia h h0 (by simpa using hj)
  have := h4 L g off none (by rw [enc_at hl]; simp only [partFits, Enc.cells]; exact ho)
  rw [enc_at hl] at this
  exact ⟨h1, h2, h3, this.1, this.2⟩
theorem Sx.len {H : AH} {a : AV} {xs : List α} (h : Sx H E a xs) : lenV a = .i .i64 xs.length ∧ lenC a := by
  have := Sl.len h
  rwa [List.length_map] at this
def tot' (w : α → Nat) : List α → Nat
  | [] => 0
  | o :: r => w o + tot' w r
theorem tot_app' (w : α → Nat) : ∀ l m : List α, tot' w (l ++ m) = tot' w l + tot' w m
  | [], m => by simp [tot']
  | x :: l, m => by simp [tot', tot_app' w l m]; omega
theorem tot_mem' {w : α → Nat} {o : α} : ∀ {l : List α}, o ∈ l → w o ≤ tot' w l
  | x :: r, h => by
    rcases List.mem_cons.1 h with rfl | h
    · simp [tot']
    · have := tot_mem' (w := w) h; simp [tot']; omega
def T_sz (C : Tab) (f : Nat) (E : Enc α) (w : α → Nat) (pre : α → Prop) : Prop := ∀ (x : α) (left : Int) (H : AH), 0 ≤ left → left ≤ 1099511627776 → pre x → C f [E.v x, .i .i64 left] H = some (.i .i64 (if left - w x < 0 then -1 else left - w x), H)
def T_to (C : Tab) (f : Nat) (E : Enc α) : Prop := ∀ (x : α) (H : AH), C f [E.v x] H = some (E.v x, H)
def T_eq (C : Tab) (f : Nat) (E : Enc α) : Prop := ∀ (x : α) (H : AH), C f [E.v x, E.v x] H = some (.b true, H)
theorem r_szS {a : AV} {xs : List α} {left : Int} {H : AH} {w : α → Nat} {pre : α → Prop} {z f : Nat} (hz : E.z = z) (hC : T_sz C f E w pre) (h : Sx H E a xs) (h0 : 0 ≤ left) (hl : left ≤ 1099511627776) (hn : xs.length ≤ 9223372036854775807) (hd : ∀ o, o ∈ xs → pre o) :
    Runs C (s_sz z f) [a, .i .i64 left] H fun v H' => H' = H ∧ v = .i .i64 (if left - xs.length - tot' w xs < 0 then -1 else left - xs.length - tot' w xs) := by
  subst hz
  unfold Runs s_sz
  obtain ⟨h1, h2⟩ := h.len
  have hw : IntKind.i64.wrap (left - (xs.length : Int)) = left - (xs.length : Int) := w64 (by omega) (by omega)
  by_cases hneg : left - (xs.length : Int) < 0
  · simp only [bU, reduceIte, Nat.reduceEqDiff, reduceCtorEq, implies_true, forall_const, eq_self, Nat.reduceAdd, Nat.reduceLT, bne_self_eq_false, bT, eq_self, true_implies, false_implies, forall_const, if_true, if_false, Int.reduceToNat, Nat.reduceSub, Int.reduceLE, h1, h2, hw, hneg, endK, rsC, rsV, resV]
    rw [if_pos (by omega)]
  · simp only [bU, reduceIte, Nat.reduceEqDiff, reduceCtorEq, implies_true, forall_const, eq_self, Nat.reduceAdd, Nat.reduceLT, bne_self_eq_false, bT, eq_self, true_implies, false_implies, forall_const, if_true, if_false, Int.reduceToNat, Nat.reduceSub, Int.reduceLE, h1, h2, hw, hneg]
    refine exec_loop (fun n e M => ∃ (i : Nat) (x : Int), i ≤ xs.length ∧ n = xs.length - i ∧ look e 0 = a ∧ look e 1 = .i .i64 x ∧ look e 5 = .i .i64 i ∧ 0 ≤ x ∧ x ≤ left ∧ (xs.length : Int) + tot' w (xs.take i) + x = left ∧ ∃ L g, M = ⟨L, g, H⟩) ?_ (n := xs.length) ⟨0, left - xs.length, by omega, by omega, rfl, rfl, rfl, by omega, by omega, by simp [tot']; omega, _, _, rfl⟩
    rintro n e M ⟨i, x, hi, rfl, q0, q1, q5, hx0, hx1, hx2, L, g, rfl⟩
    by_cases hlt : (i : Int) < xs.length
    · have hil : i < xs.length := by omega
      obtain ⟨b1, b2, b3, b4⟩ := h.ia (j := i) (by omega) hlt (keepL [0, 1, 5] L) g hil
      have hmem : xs[i] ∈ xs := List.getElem_mem hil
      have hcall := hC xs[i] x H hx0 (by omega) (hd _ hmem)
      simp only [toNat_nat] at b3 b4
      have ht : tot' w (xs.take (i + 1)) = tot' w (xs.take i) + w (xs[i]) := by
        rw [← List.take_append_getElem hil, tot_app']; simp [tot']
      by_cases hxn : x - (w (xs[i]) : Int) < 0
      · rw [if_pos hxn] at hcall
        simp only [bU, reduceIte, Nat.reduceEqDiff, reduceCtorEq, implies_true, forall_const, eq_self, Nat.reduceAdd, Nat.reduceLT, bne_self_eq_false, bT, eq_self, true_implies, false_implies, forall_const, if_true, if_false, Int.reduceToNat, Nat.reduceSub, Int.reduceLE, q0, q1, q5, h1, h2, hlt, toNat_nat, b1, b2, b3, b4, hcall, Enc.out, Int.reduceNeg, Int.reduceLT, endK, rsC, rsV, resV]
        have hle : tot' w (xs.take (i + 1)) ≤ tot' w xs := by
          conv => rhs; rw [← List.take_append_drop (i + 1) xs, tot_app']
          omega
        rw [if_pos (by omega)]
      · rw [if_neg hxn] at hcall
        simp only [bU, reduceIte, Nat.reduceEqDiff, reduceCtorEq, implies_true, forall_const, eq_self, Nat.reduceAdd, Nat.reduceLT, bne_self_eq_false, bT, eq_self, true_implies, false_implies, forall_const, if_true, if_false, Int.reduceToNat, Nat.reduceSub, Int.reduceLE, q0, q1, q5, h1, h2, hlt, toNat_nat, b1, b2, b3, b4, hcall, Enc.out, hxn]
        refine ⟨xs.length - (i + 1), by omega, i + 1, x - w (xs[i]), by omega, rfl, rfl, by rw [w64 (by omega) (by omega)]; rfl, by omega, by omega, by rw [ht]; omega, _, _, rfl⟩
    · have hil : i = xs.length := by omega
      subst hil
      simp only [bU, reduceIte, Nat.reduceEqDiff, reduceCtorEq, implies_true, forall_const, eq_self, Nat.reduceAdd, Nat.reduceLT, bne_self_eq_false, bT, eq_self, true_implies, false_implies, forall_const, if_true, if_false, Int.reduceToNat, Nat.reduceSub, Int.reduceLE, q0, q1, q5, h1, h2, hlt, endK, rsC, rsV, resV]
      rw [List.take_length] at hx2
      rw [if_neg (by omega)]
      rw [show left - (xs.length : Int) - (tot' w xs : Nat) = x by omega]
theorem r_eqS {a b : AV} {xs : List α} {H : AH} {z f : Nat} (hz : E.z = z) (hC : T_eq C f E) (h : Sx H E a xs) (h' : Sx H E b xs) (hn : xs.length ≤ 1099511627776) : Runs C (s_eq z f) [a, b] H fun v H' => H' = H ∧ v = .b true := by
  subst hz
  unfold Runs s_eq
  obtain ⟨h1, h2⟩ := h.len
  obtain ⟨h3, h4⟩ := h'.len
  simp only [bU, reduceIte, Nat.reduceEqDiff, reduceCtorEq, implies_true, forall_const, eq_self, Nat.reduceAdd, Nat.reduceLT, bne_self_eq_false, bT, eq_self, true_implies, false_implies, forall_const, if_true, if_false, Int.reduceToNat, Nat.reduceSub, Int.reduceLE, h1, h2, h3, h4]
  refine exec_loop (fun n e M => ∃ i : Nat, i ≤ xs.length ∧ n = xs.length - i ∧ look e 0 = a ∧ look e 1 = b ∧ look e 5 = .i .i64 i ∧ ∃ L g, M = ⟨L, g, H⟩) ?_ (n := xs.length) ⟨0, by omega, by omega, rfl, rfl, rfl, _, _, rfl⟩
  rintro n e M ⟨i, hi, rfl, q0, q1, q5, L, g, rfl⟩
  by_cases hlt : (i : Int) < xs.length
  · have hil : i < xs.length := by omega
    obtain ⟨b1, b2, b3, b4⟩ := h.ia (j := i) (by omega) hlt (keepL [0, 1, 5] L) g hil
    obtain ⟨c1, c2, c3, c4⟩ := h'.ia (j := i) (by omega) hlt (keepL [0, 1, 5] L) g hil
    have hcall := hC xs[i] H
    simp only [toNat_nat] at b3 b4 c3 c4
    simp only [bU, reduceIte, Nat.reduceEqDiff, reduceCtorEq, implies_true, forall_const, eq_self, Nat.reduceAdd, Nat.reduceLT, bne_self_eq_false, bT, eq_self, true_implies, false_implies, forall_const, if_true, if_false, Int.reduceToNat, Nat.reduceSub, Int.reduceLE, q0, q1, q5, h1, h2, hlt, toNat_nat, b1, b2, b3, b4, c1, c2, c3, c4, hcall, Enc.out]
    exact ⟨xs.length - (i + 1), by omega, i + 1, by omega, rfl, by rw [w64 (by omega) (by omega)]; rfl, _, _, rfl⟩
  · simp only [bU, reduceIte, Nat.reduceEqDiff, reduceCtorEq, implies_true, forall_const, eq_self, Nat.reduceAdd, Nat.reduceLT, bne_self_eq_false, bT, eq_self, true_implies, false_implies, forall_const, if_true, if_false, Int.reduceToNat, Nat.reduceSub, Int.reduceLE, q0, q1, q5, h1, h2, hlt, endK, rsC, rsV, resV]
theorem r_toS {a : AV} {xs : List α} {H : AH} {z by' f : Nat} {zero : List AV} (hz : E.z = z) (h0 : zero.length = z) (hC : T_to C f E) (h : Sx H E a xs) (hb : by' ≤ 1024) (hn : xs.length ≤ 137438953472) : Runs C (s_to z by' f (.ag zero)) [a] H fun v H' => Ext H H' ∧ Mx H' E v xs ∧ ∀ i, i ∈ idA v → H.n ≤ i := by
  subst hz
  unfold Runs s_to
  obtain ⟨h1, h2⟩ := h.len
  have hby : (xs.length : Int) * by' ≤ 281474976710656 := by
    have h3 : (xs.length : Int) * by' ≤ xs.length * 1024 := Int.mul_le_mul_of_nonneg_left (by omega) (by omega)
    omega
  simp only [bS, reduceIte, Nat.reduceEqDiff, bT, eq_self, true_implies, false_implies, forall_const, if_true, if_false, Int.reduceToNat, Nat.reduceSub, Int.reduceLE, h1, h2]
  have hm0 : Mn (H.new (.arr true 0 E.z (List.replicate xs.length (.ag zero)))) E.z (.sl H.n 0 xs.length) (List.replicate xs.length (.ag zero)) := by
    have := Mn.own (H := H.new (.arr true 0 E.z (List.replicate xs.length (.ag zero)))) (z := E.z) (by simp) new_at
    rwa [List.length_replicate] at this
  refine ⟨⟨by omega, hby, by omega⟩, exec_loop (fun n e M => ∃ i : Nat, i ≤ xs.length ∧ n = xs.length - i ∧ look e 0 = a ∧ look e 3 = .sl H.n 0 xs.length ∧ look e 4 = .i .i64 i ∧ ∃ L g H', M = ⟨L, g, H'⟩ ∧ Ext H H' ∧ Mn H' E.z (.sl H.n 0 xs.length) (((xs.map E.v).take i) ++ List.replicate (xs.length - i) (.ag zero))) ?_ (n := xs.length) ⟨0, by omega, by omega, rfl, rfl, rfl, _, _, _, rfl, .new _ _, by simpa [toNat_nat] using hm0⟩⟩
  rintro n e M ⟨i, hi, rfl, q0, q3, q4, L, g, H', rfl, he, hm⟩
  by_cases hlt : (i : Int) < xs.length
  · have hil : i < xs.length := by omega
    obtain ⟨b1, b2, b3, b4⟩ := Sx.ia (Sl.ext h he) (j := i) (by omega) hlt (keepL [0, 3, 4] L) g hil
    have hcall := hC xs[i] H'
    have hlen : (((xs.map E.v).take i) ++ List.replicate (xs.length - i) (AV.ag zero)).length = xs.length := by simp; omega
    have hget : (((xs.map E.v).take i) ++ List.replicate (xs.length - i) (AV.ag zero)).getD i .u = .ag zero := by
      simp only [List.getD]
      rw [List.getElem?_append_right (by simp; omega), List.getElem?_replicate, if_pos (by simp; omega)]
      rfl
    obtain ⟨d1, d2, -, -⟩ := (Mn.sl hm).ia (j := i) (by omega) (by rw [hlen]; exact hlt)
    obtain ⟨c3, H2, c4, c5, c6, c7⟩ := hm.st (j := i) (by omega) (by rw [hlen]; exact hlt) (v := E.v xs[i]) (off := 0) (by rw [toNat_nat, hget, Enc.cells]; simp [AV.cells, h0]) (keepL [0, 3, 4] L) g
    rw [fa0] at c3 c4
    rw [toNat_nat, hget] at c5
    have e1 : setEl (AV.ag zero) 0 (E.v xs[i]) = E.v xs[i] := by
      simp only [setEl, setPart, List.take_zero, List.nil_append, Nat.zero_add, Enc.cells]
      rw [List.drop_of_length_le (by omega), List.append_nil]
      rfl
    have e2 : (xs.map E.v).getD i .u = E.v xs[i] := enc_at hil
    have e3 := take_rep_set (l := xs.map E.v) (i := i) (z := AV.ag zero) (d := .u) (by simpa using hil)
    rw [e2, List.length_map] at e3
    rw [e1, e3] at c5
    simp only [toNat_nat] at b3 b4 c3 c4
    simp only [bU, reduceIte, Nat.reduceEqDiff, reduceCtorEq, implies_true, forall_const, eq_self, Nat.reduceAdd, Nat.reduceLT, bne_self_eq_false, bT, eq_self, true_implies, false_implies, forall_const, if_true, if_false, Int.reduceToNat, Nat.reduceSub, Int.reduceLE, q0, q3, q4, h1, h2, hlt, toNat_nat, b1, b2, b3, b4, hcall, Enc.out, Enc.cells, c3, c4, d1, d2, Mem.keep]
    exact ⟨xs.length - (i + 1), by omega, i + 1, by omega, rfl, by rw [w64 (by omega) (by omega)]; rfl, _, _, H2, rfl, he.put (l := [H.n]) (by simp) (Nat.le_of_eq c6.symm) (fun j _ hj => c7 j hj), c5⟩
  · have hil : i = xs.length := by omega
    subst hil
    simp only [bU, reduceIte, Nat.reduceEqDiff, reduceCtorEq, implies_true, forall_const, eq_self, Nat.reduceAdd, Nat.reduceLT, bne_self_eq_false, bT, eq_self, true_implies, false_implies, forall_const, if_true, if_false, Int.reduceToNat, Nat.reduceSub, Int.reduceLE, q0, q3, q4, h1, h2, hlt, endK, rsC, rsV, resV, Mem.keep]
    refine ⟨he, ?_, by simp [idA]⟩
    have hm2 := hm
    rw [Nat.sub_self, List.replicate_zero, List.append_nil, List.take_of_length_le (by simp)] at hm2
    exact hm2
end
end Go.Vm

/- Elements of own slices, changed field by field; and the decimal text that a mark is. -/
namespace Go.Vm
set_option linter.unusedVariables false
set_option linter.unusedSimpArgs false
section
variable {C : Tab} {α : Type} {E : Enc α}
theorem Mx.stf {H : AH} {a : AV} {cur : List α} {x x' : α} {i off z : Nat} {v : AV} (h : Mx H E a (cur.set i x)) (hz : E.z = z) (hi : i < cur.length) (ho : off < z) (hv : v.cells = [v]) (hx : (E.fn x).set off v = E.fn x') :
    slZ H z a ∧ iaC (i : Int) a ∧ faC (iaV i a) ∧ (∀ (L : List Lv) (g : Nat), stC ⟨L, g, H⟩ v (faV off (iaV i a))) ∧ ∃ H', (∀ (L : List Lv) (g : Nat), stM ⟨L, g, H⟩ v (faV off (iaV i a)) = ⟨L, g, H'⟩) ∧ Mx H' E a (cur.set i x') ∧ H'.n = H.n ∧ ∀ j, ¬ j ∈ idA a → H'.at' j = H.at' j := by
  subst hz
  have hl : ((cur.set i x).map E.v).length = cur.length := by simp
  have hg : ((cur.set i x).map E.v).getD i .u = E.v x := by simp [List.getD, hi]
  have hset : setEl (E.v x) off v = E.v x' := by
    simp only [Enc.v, setEl, setPart, hv, List.length_singleton]
    rw [← hx, List.set_eq_take_append_cons_drop, if_pos (by rw [E.len]; exact ho)]
    simp
  have hmap : ((cur.set i x).map E.v).set i (E.v x') = (cur.set i x').map E.v := by simp [List.map_set]
  obtain ⟨h1, h2, h3, -⟩ := (Mn.sl h).ia (j := i) (by omega) (by rw [hl]; omega)
  rw [Int.toNat_natCast] at h3
  obtain ⟨h4, H', h5, h6, h7, h8⟩ := Mn.st h (j := i) (by omega) (by rw [hl]; omega) (v := v) (off := off) (by rw [Int.toNat_natCast, hg, Enc.cells, hv]; simp; omega) [] 0
  rw [Int.toNat_natCast, hg, hset, hmap] at h6
  rw [Int.toNat_natCast] at h4 h5
  have hst : ∀ (L : List Lv) (g : Nat), stC ⟨L, g, H⟩ v (faV off (iaV i a)) ∧ stM ⟨L, g, H⟩ v (faV off (iaV i a)) = ⟨L, g, H'⟩ := fun L g => by
    have h' : Mn H E.z a ((cur.set i x).map E.v) := h
    generalize (cur.set i x).map E.v = els at h' hl
    cases h' with
    | nil => simp at hl; omega
    | own k1 k2 =>
      refine ⟨h4, ?_⟩
      simp only [iaV, faV, stM, k2] at h5 ⊢
      have := congrArg Mem.h h5
      simp only at this
      rw [this]
  exact ⟨h1, h2, h3, fun L g => (hst L g).1, H', fun L g => (hst L g).2, h6, h7, h8⟩
theorem Sx.fdn {H : AH} {a : AV} {xs : List α} (h : Sx H E a xs) {i off z : Nat} (hz : E.z = z) (hi : i < xs.length) (ho : off < z) : slZ H z a ∧ iaC (i : Int) a ∧ faC (iaV i a) ∧ (∀ (L : List Lv) (g : Nat), ldC ⟨L, g, H⟩ none (faV off (iaV i a))) ∧ ∀ (L : List Lv) (g : Nat), ldX ⟨L, g, H⟩ none (faV off (iaV i a)) = (E.fn xs[i]).getD off .u := by
  subst hz
  obtain ⟨h1, h2, h3, -⟩ := h.fd (j := i) (by omega) (by omega) ho [] 0 hi
  exact ⟨h1, h2, h3, fun L g => (h.fd (j := i) (by omega) (by omega) ho L g hi).2.2.2.1, fun L g => (h.fd (j := i) (by omega) (by omega) ho L g hi).2.2.2.2⟩
/-- The elements that a mark leaves: c numbers each. -/
def mks (mk : Nat → α) (c k n : Nat) : List α := (List.range n).map fun j => mk (k + c * j)
theorem mks_len (mk : Nat → α) (c k n : Nat) : (mks mk c k n).length = n := by simp [mks]
theorem mks_get (mk : Nat → α) (c k n i : Nat) (h : i < (mks mk c k n).length) : (mks mk c k n)[i] = mk (k + c * i) := by simp [mks]
theorem mks_step {mk : Nat → α} {c k i : Nat} {xs : List α} (hi : i < xs.length) : (mks mk c k i ++ xs.drop i).set i (mk (k + c * i)) = mks mk c k (i + 1) ++ xs.drop (i + 1) := by
  rw [List.set_append_right _ _ (by rw [mks_len]; exact Nat.le_refl _), mks_len, Nat.sub_self, List.drop_eq_getElem_cons hi, List.set_cons_zero]
  simp [mks, List.range_succ]
theorem mks_cur {mk : Nat → α} {c k i : Nat} {xs : List α} (hi : i < xs.length) : (mks mk c k i ++ xs.drop i).length = xs.length ∧ (mks mk c k i ++ xs.drop i).set i xs[i] = mks mk c k i ++ xs.drop i := by
  refine ⟨by simp [mks]; omega, ?_⟩
  rw [List.set_append_right _ _ (by rw [mks_len]; exact Nat.le_refl _), mks_len, Nat.sub_self, List.drop_eq_getElem_cons hi, List.set_cons_zero]
/-- Behind changes of rows of its own: all else stays. -/
structure Kp (ids : List Nat) (H H' : AH) : Prop where
  n : H.n ≤ H'.n
  at' : ∀ i, i < H.n → ¬ i ∈ ids → H'.at' i = H.at' i
theorem Kp.refl (ids : List Nat) (H : AH) : Kp ids H H := ⟨Nat.le_refl _, fun _ _ _ => rfl⟩
theorem Kp.trans {ids : List Nat} {H H1 H2 : AH} (h : Kp ids H H1) (h' : Kp ids H1 H2) : Kp ids H H2 := ⟨Nat.le_trans h.n h'.n, fun i hi hn => (h'.at' i (Nat.lt_of_lt_of_le hi h.n) hn).trans (h.at' i hi hn)⟩
theorem Kp.ext {ids : List Nat} {H H' : AH} (h : Ext H H') : Kp ids H H' := ⟨h.n, fun i hi _ => h.at' i hi⟩
theorem Kp.st {ids : List Nat} {H H' : AH} (hn : H'.n = H.n) (h : ∀ j, ¬ j ∈ ids → H'.at' j = H.at' j) : Kp ids H H' := ⟨Nat.le_of_eq hn.symm, fun i _ hi => h i hi⟩
theorem Kp.mono {ids js : List Nat} {H H' : AH} (h : Kp ids H H') (hs : ∀ i, i ∈ ids → i ∈ js) : Kp js H H' := ⟨h.n, fun i hi hn => h.at' i hi fun hm => hn (hs i hm)⟩
/-- Rows of its own are nobody else's. -/
theorem Kp.put {ids : List Nat} {H0 H H' : AH} (he : Ext H0 H) (h : Kp ids H H') (hi : ∀ i, i ∈ ids → H0.n ≤ i) : Ext H0 H' := he.put hi h.n h.at'
theorem Kp.sl {ids : List Nat} {H H' : AH} {z : Nat} {a : AV} {els : List AV} (h : Kp ids H H') (hs : Sl H z a els) (hd : ∀ i, i ∈ idA a → ¬ i ∈ ids) : Sl H' z a els := hs.fr h.n fun i hi => h.at' i (hs.lt i hi) (hd i hi)
theorem Kp.mn {ids : List Nat} {H H' : AH} {z : Nat} {a : AV} {els : List AV} (h : Kp ids H H') (hs : Mn H z a els) (hd : ∀ i, i ∈ idA a → ¬ i ∈ ids) : Mn H' z a els := hs.fr h.n fun i hi => h.at' i (hs.lt i hi) (hd i hi)
/-! The text of a mark. -/
def dgs (k : Nat) (out : List UInt8) : List UInt8 := if h : k = 0 then out else dgs (k / 10) (UInt8.ofNat (48 + k % 10) :: out)
termination_by k
decreasing_by omega
def mt (k : Nat) : List UInt8 := if k = 0 then [109, 48] else 109 :: dgs k []
def T_mt (C : Tab) (f : Nat) : Prop := ∀ (k : Nat) (H : AH), k ≤ 1099511627776 → ∃ H', C f [.i .i64 k] H = some (.s (mt k), H') ∧ Ext H H'
end
end Go.Vm

/- Objects that are one struct: fields read and written through their address. -/
namespace Go.Vm
set_option linter.unusedVariables false
set_option linter.unusedSimpArgs false
structure Obj1 (H : AH) (id : Nat) (cs : List AV) : Prop where
  lt : id < H.n
  at' : H.at' id = .arr true 0 cs.length [.ag cs]
section
variable {H H' : AH} {id off : Nat} {cs : List AV} {v : AV}
theorem pv_faC : faC (.pv id off) := trivial
theorem pv_faV {o : Nat} : faV o (.pv id off) = .pv id (off + o) := rfl
theorem pv_ldC0 {M : Mem} : ldC M (some 0) (.pv id off) = True := by simp [ldC]
theorem pv_ldX0 {M : Mem} : ldX M (some 0) (.pv id off) = .ag [] := rfl
theorem Obj1.ld (h : Obj1 H id cs) (ho : off < cs.length) : (∀ (L : List Lv) (g : Nat), ldC ⟨L, g, H⟩ none (.pv id off)) ∧ ∀ (L : List Lv) (g : Nat), ldX ⟨L, g, H⟩ none (.pv id off) = cs.getD off .u := by
  refine ⟨fun L g => ?_, fun L g => ?_⟩
  · simp only [ldC, h.at']
    exact .inr ⟨trivial, by simpa [partFits, flat, AV.cells] using ho⟩
  · show ldV ⟨L, g, H⟩ none (.pv id off) = _
    simp only [ldV, h.at', partOf, flat, AV.cells, List.append_nil]
theorem Obj1.lds (h : Obj1 H id cs) : (∀ (L : List Lv) (g : Nat), ldC ⟨L, g, H⟩ (some cs.length) (.pv id 0)) ∧ ∀ (L : List Lv) (g : Nat), ldX ⟨L, g, H⟩ (some cs.length) (.pv id 0) = if cs.length = 0 then .ag [] else .ag cs := by
  refine ⟨fun L g => ?_, fun L g => ?_⟩
  · simp only [ldC, h.at']
    exact .inr ⟨trivial, by simp [partFits, flat, AV.cells]⟩
  · cases hc : cs.length with
    | zero => rfl
    | succ n =>
      show ldV ⟨L, g, H⟩ (some (n + 1)) (.pv id 0) = _
      simp only [ldV, h.at', partOf, flat, AV.cells, List.append_nil, List.drop_zero]
      rw [List.take_of_length_le (by omega)]
      simp
theorem Obj1.st (h : Obj1 H id cs) (ho : off < cs.length) (hv : v.cells = [v]) : (∀ (L : List Lv) (g : Nat), stC ⟨L, g, H⟩ v (.pv id off)) ∧ ∃ H', (∀ (L : List Lv) (g : Nat), stM ⟨L, g, H⟩ v (.pv id off) = ⟨L, g, H'⟩) ∧ Obj1 H' id (cs.set off v) ∧ H'.n = H.n ∧ ∀ j, ¬ j ∈ [id] → H'.at' j = H.at' j := by
  refine ⟨fun L g => ?_, H.set id (.arr true 0 cs.length [.ag (cs.set off v)]), fun L g => ?_, ⟨h.lt, ?_⟩, rfl, fun j hj => set_ne fun e => hj (by simp [e])⟩
  · simp only [stC, h.at', hv, List.length_singleton]
    exact ⟨trivial, trivial, rfl, ho⟩
  · simp only [stM, h.at', setEl, setPart, hv, List.length_singleton]
    rw [List.set_eq_take_append_cons_drop, if_pos ho]
    simp
  · rw [set_at, List.length_set]
theorem Obj1.fr (h : Obj1 H id cs) (hn : H.n ≤ H'.n) (ha : H'.at' id = H.at' id) : Obj1 H' id cs := ⟨Nat.lt_of_lt_of_le h.lt hn, ha.trans h.at'⟩
theorem Obj1.ext (h : Obj1 H id cs) (he : Ext H H') : Obj1 H' id cs := h.fr he.n (he.at' _ h.lt)
theorem Obj1.kp {ids : List Nat} (h : Obj1 H id cs) (hk : Kp ids H H') (hi : ¬ id ∈ ids) : Obj1 H' id cs := h.fr hk.n (hk.at' _ h.lt hi)
theorem Obj1.new {H : AH} {cs : List AV} : Obj1 (H.new (.arr true 0 cs.length [.ag cs])) H.n cs := ⟨by simp, new_at⟩
end
end Go.Vm

/- Functions' code as literals of the abstract machine, printed by wip/tools/lits.py; the kernel checks each against the translation. -/
namespace Go.Vm
set_option linter.unusedVariables false
set_option linter.unusedSimpArgs false
/-- loop.example/s01858/spec.l02Num -/
def c_spec_l02Num : Fn := ⟨1, [(.t 2)],
    .q (.o [.mv 2 (.c (.i .i64 0))])
    (.q (.o [.mv 3 (.c (.i .i64 0))])
    (.q (.q (.o [.mv 4 (.c (.i .i64 0))])
    (.b 0 (.l [0, 3, 4] (.q (.q (.o [.mv 5 (.t 4),
      .mv 6 (.t 0),
      .lns 7 (.t 6),
      .bn 8 .lss (.t 5) (.t 7)])
    (.i (.t 8) (.k)
    (.x 0)))
    (.q (.b 1 (.o [.mv 11 (.t 3),
      .bn 12 .mul (.t 11) (.c (.i .i64 256)),
      .mv 13 (.t 0),
      .mv 14 (.t 4),
      .ix 15 (.t 13) (.t 14),
      .ci 16 .i64 (.t 15),
      .bn 17 .add (.t 12) (.t 16),
      .mv 3 (.t 17)]))
    (.o [.mv 9 (.t 4),
      .bn 10 .add (.t 9) (.c (.i .i64 1)),
      .mv 4 (.t 10)]))))))
    (.q (.o [.mv 18 (.t 3),
      .mv 2 (.t 18)])
    (.r))))⟩
abbrev n_spec_l02Num : Nat := 83
theorem k_spec_l02Num : chkF Go.Proofs.Tryd.prog c_spec_l02Num 83 = true := by kernel_rfl
theorem mixed : Go.Proofs.Tryd.prog.follows .mixedOrders = true := by kernel_rfl
end Go.Vm

/- Numbers out of bytes; a literal of one element. -/
namespace Go.Vm
set_option linter.unusedVariables false
set_option linter.unusedSimpArgs false
def num : List UInt8 → Nat → Nat
  | [], n => n
  | b :: r, n => num r (n * 256 + b.toNat)
theorem num_app : ∀ (l : List UInt8) (b : UInt8) (n : Nat), num (l ++ [b]) n = num l n * 256 + b.toNat
  | [], b, n => rfl
  | c :: r, b, n => num_app r b _
theorem num_lt : ∀ (l : List UInt8) (n k : Nat), n < 256 ^ k → num l n < 256 ^ (k + l.length)
  | [], n, k, h => h
  | b :: r, n, k, h => by
    have hb := b.toNat_lt
    have := num_lt r (n * 256 + b.toNat) (k + 1) (by rw [Nat.pow_succ]; omega)
    rw [List.length_cons, show k + (r.length + 1) = k + 1 + r.length by omega]
    exact this
def T_l02Num (C : Tab) (f : Nat) : Prop := ∀ l H, l.length ≤ 7 → C f [.s l] H = some (.i .i64 ((num l 0 : Nat) : Int), H)
/-- A literal of one element. -/
theorem lit_src {t g : Nat} {x : AV} {L : List Lv} {H : AH} : srcV ⟨⟨t, g, 0, [x]⟩ :: L, g + 1, H⟩ (.ll t g 1 1) = [x] ∧ srcC ⟨⟨t, g, 0, [x]⟩ :: L, g + 1, H⟩ 1 (.ll t g 1 1) := by
  simp [srcV, srcC, Mem.getL, Mem.hasL, lookL]
section
variable {C : Tab}
theorem r_l02Num {l : List UInt8} {H : AH} (hl : l.length ≤ 7) : Runs C c_spec_l02Num [.s l] H fun v H' => v = .i .i64 ((num l 0 : Nat) : Int) ∧ H' = H := by
  unfold Runs c_spec_l02Num
  simp only [bS, reduceIte, Nat.reduceEqDiff]
  refine exec_loop (fun n e M => ∃ i : Nat, i ≤ l.length ∧ n = l.length - i ∧ look e 0 = .s l ∧ look e 3 = .i .i64 ((num (l.take i) 0 : Nat) : Int) ∧ look e 4 = .i .i64 i ∧ ∃ L g, M = ⟨L, g, H⟩) ?_ (n := l.length) ⟨0, by omega, by omega, rfl, rfl, rfl, _, _, rfl⟩
  rintro n e M ⟨i, hi, rfl, q0, q3, q4, L, g, rfl⟩
  simp only [bS, reduceIte, Nat.reduceEqDiff, q0, q3, q4, Mem.keep]
  refine ⟨fun hlt => ?_, fun hge => ?_⟩
  · have hil : i < l.length := by omega
    have hb := (l[i]).toNat_lt
    have hlt := num_lt (l.take i) 0 0 (by simp)
    have hle : 256 ^ (0 + (l.take i).length) ≤ 256 ^ 6 := Nat.pow_le_pow_right (by omega) (by simp; omega)
    have e256 : (256 : Nat) ^ 6 = 281474976710656 := by decide
    have hg : l.getD i 0 = l[i] := by simp [List.getD, List.getElem?_eq_getElem hil]
    simp only [toNat_nat, hg]
    refine ⟨⟨by omega, by omega⟩, l.length - (i + 1), by omega, i + 1, by omega, rfl, ?_, by rw [w64 (by omega) (by omega)]; rfl, _, _, rfl⟩
    rw [← List.take_append_getElem hil, num_app, w64 (x := _ * 256) (by omega) (by omega), w64 (x := ((l[i]).toNat : Int)) (by omega) (by omega), w64 (by omega) (by omega)]
    congr 1
  · have hil : i = l.length := by omega
    subst hil
    simp only [bS, reduceIte, Nat.reduceEqDiff, q3, endK, rsC, rsV, resV, List.take_length]
end
end Go.Vm

/- Functions' code as literals of the abstract machine, printed by wip/tools/lits.py; the kernel checks each against the translation. -/
namespace Go.Vm
set_option linter.unusedVariables false
set_option linter.unusedSimpArgs false
/-- loop.example/s01858/spec.EdnsRecord -/
def c_spec_EdnsRecord : Fn := ⟨4, [(.c 8 (some 5)), (.t 9)],
    .q (.o [.lal 8 (.ag [(.s []), (.i .i64 0), (.i .i64 0), (.i .i64 0), (.s [])]),
      .mv 9 (.c (.i .i64 0))])
    (.q (.q (.o [.mv 15 (.t 0),
      .cl (some 16) 26 [(.t 15), (.c (.i .i64 65535))],
      .un 17 .not (.t 16),
      .mv 18 (.t 17),
      .gd 18 false (.mv 19 (.t 2)),
      .gd 18 false (.cl (some 20) 26 [(.t 19), (.c (.i .i64 65535))]),
      .gd 18 false (.un 21 .not (.t 20)),
      .pk 22 (.t 18) (.c (.b true)) (.t 21),
      .mv 23 (.t 22),
      .gd 23 false (.mv 24 (.t 1)),
      .gd 23 false (.cl (some 25) 26 [(.t 24), (.c (.i .i64 255))]),
      .gd 23 false (.un 26 .not (.t 25)),
      .pk 27 (.t 23) (.c (.b true)) (.t 26)])
    (.i (.t 27) (.q (.o [.bd 28 [(.s []), (.i .i64 0), (.i .i64 0), (.i .i64 0), (.s [])] [],
      .st (.t 8) (.t 28) 5,
      .mv 9 (.c (.i .i64 32))])
    (.r))
    (.k)))
    (.q (.o [.bs 29 (.i .u8 0) 1 0 [],
      .mv 10 (.t 29)])
    (.q (.q (.o [.mv 11 (.c (.i .i64 0))])
    (.b 0 (.l [0, 1, 2, 3, 8, 10, 11] (.q (.q (.o [.mv 30 (.t 11),
      .mv 31 (.t 3),
      .ln 32 (.t 31),
      .bn 33 .lss (.t 30) (.t 32)])
    (.i (.t 33) (.k)
    (.x 0)))
    (.q (.b 1 (.q (.o [.mv 36 (.t 3),
      .mv 37 (.t 11),
      .ia 38 (.t 36) (.t 37) 2,
      .ld 39 (.t 38) (some 2),
      .lal 12 (.ag [(.i .i64 0), (.s [])]),
      .st (.t 12) (.t 39) 2])
    (.q (.q (.o [.fa 40 (.t 12) 0,
      .ld 41 (.t 40) none,
      .cl (some 42) 26 [(.t 41), (.c (.i .i64 65535))],
      .un 43 .not (.t 42),
      .mv 44 (.t 43),
      .gd 44 false (.fa 45 (.t 12) 1),
      .gd 44 false (.ld 46 (.t 45) none),
      .gd 44 false (.lns 47 (.t 46)),
      .gd 44 false (.bn 48 .gtr (.t 47) (.c (.i .i64 65535))),
      .pk 49 (.t 44) (.c (.b true)) (.t 48)])
    (.i (.t 49) (.q (.o [.bd 50 [(.s []), (.i .i64 0), (.i .i64 0), (.i .i64 0), (.s [])] [],
      .st (.t 8) (.t 50) 5,
      .mv 9 (.c (.i .i64 32))])
    (.r))
    (.k)))
    (.q (.p [⟨.fa 51 (.t 12) 0, [], false⟩,
      ⟨.ld 52 (.t 51) none, [], false⟩,
      ⟨.cl (some 53) 27 [(.t 52), (.c (.i .i64 2))], [], true⟩,
      ⟨.fa 54 (.t 12) 1, [], false⟩,
      ⟨.ld 55 (.t 54) none, [2], false⟩,
      ⟨.lns 56 (.t 55), [], false⟩,
      ⟨.cl (some 57) 27 [(.t 56), (.c (.i .i64 2))], [], true⟩,
      ⟨.bn 58 .add (.t 53) (.t 57), [], false⟩,
      ⟨.fa 59 (.t 12) 1, [], false⟩,
      ⟨.ld 60 (.t 59) none, [2, 6], false⟩,
      ⟨.bn 61 .add (.t 58) (.t 60), [], false⟩,
      ⟨.mv 13 (.t 61), [], false⟩])
    (.q (.o [.mv 14 (.c (.i .i64 0))])
    (.b 2 (.l [0, 1, 2, 3, 8, 10, 11, 13, 14] (.q (.q (.o [.mv 62 (.t 14),
      .mv 63 (.t 13),
      .lns 64 (.t 63),
      .bn 65 .lss (.t 62) (.t 64)])
    (.i (.t 65) (.k)
    (.x 2)))
    (.q (.b 3 (.o [.mv 68 (.t 10),
      .mv 69 (.t 13),
      .mv 70 (.t 14),
      .ix 71 (.t 69) (.t 70),
      .lbs 72 (.i .u8 0) 1 1 [(0, (.t 71))],
      .ap 73 (.t 68) (.t 72) 1 1,
      .mv 10 (.t 73)]))
    (.o [.mv 66 (.t 14),
      .bn 67 .add (.t 66) (.c (.i .i64 1)),
      .mv 14 (.t 67)]))))))))))
    (.o [.mv 34 (.t 11),
      .bn 35 .add (.t 34) (.c (.i .i64 1)),
      .mv 11 (.t 35)]))))))
    (.q (.q (.o [.mv 74 (.t 10),
      .ln 75 (.t 74),
      .bn 76 .gtr (.t 75) (.c (.i .i64 65535))])
    (.i (.t 76) (.q (.o [.bd 77 [(.s []), (.i .i64 0), (.i .i64 0), (.i .i64 0), (.s [])] [],
      .st (.t 8) (.t 77) 5,
      .mv 9 (.c (.i .i64 32))])
    (.r))
    (.k)))
    (.q (.o [.mv 78 (.t 0),
      .mv 79 (.t 1),
      .bn 80 .shl (.t 79) (.c (.i .u64 24)),
      .mv 81 (.t 2),
      .bn 82 .add (.t 80) (.t 81),
      .mv 83 (.t 10),
      .cbs 84 (.t 83),
      .bd 85 [(.s []), (.i .i64 0), (.i .i64 0), (.i .i64 0), (.s [])] [(0, 1, (.c (.s [0]))), (1, 1, (.c (.i .i64 41))), (2, 1, (.t 78)), (3, 1, (.t 82)), (4, 1, (.t 84))],
      .st (.t 8) (.t 85) 5,
      .mv 9 (.c (.i .i64 0))])
    (.r))))))⟩
abbrev n_spec_EdnsRecord : Nat := 7
theorem k_spec_EdnsRecord : chkF Go.Proofs.Tryd.prog c_spec_EdnsRecord 7 = true := by kernel_rfl
/-- loop.example/s01858/impl.EdnsRecord -/
def c_impl_EdnsRecord : Fn := ⟨4, [(.c 8 (some 5)), (.t 9)],
    .q (.o [.lal 8 (.ag [(.s []), (.i .i64 0), (.i .i64 0), (.i .i64 0), (.s [])]),
      .mv 9 (.c (.i .i64 0))])
    (.q (.q (.o [.mv 13 (.t 0),
      .cl (some 14) 28 [(.t 13), (.c (.i .i64 0)), (.c (.i .i64 65535))],
      .un 15 .not (.t 14),
      .mv 16 (.t 15),
      .gd 16 false (.mv 17 (.t 2)),
      .gd 16 false (.cl (some 18) 28 [(.t 17), (.c (.i .i64 0)), (.c (.i .i64 65535))]),
      .gd 16 false (.un 19 .not (.t 18)),
      .pk 20 (.t 16) (.c (.b true)) (.t 19),
      .mv 21 (.t 20),
      .gd 21 false (.mv 22 (.t 1)),
      .gd 21 false (.cl (some 23) 28 [(.t 22), (.c (.i .i64 0)), (.c (.i .i64 255))]),
      .gd 21 false (.un 24 .not (.t 23)),
      .pk 25 (.t 21) (.c (.b true)) (.t 24)])
    (.i (.t 25) (.q (.o [.bd 26 [(.s []), (.i .i64 0), (.i .i64 0), (.i .i64 0), (.s [])] [],
      .st (.t 8) (.t 26) 5,
      .mv 9 (.c (.i .i64 32))])
    (.r))
    (.k)))
    (.q (.o [.mv 10 (.c (.s []))])
    (.q (.q (.o [.mv 27 (.t 3),
      .ln 28 (.t 27),
      .mv 29 (.c (.i .i64 0))])
    (.b 0 (.l [0, 1, 2, 8, 10, 27, 28, 29] (.q (.o [.bn 30 .lss (.t 29) (.t 28)])
    (.q (.i (.t 30) (.k)
    (.x 0))
    (.q (.b 1 (.q (.o [.ia 31 (.t 27) (.t 29) 2,
      .ld 32 (.t 31) (some 2),
      .lal 12 (.ag [(.i .i64 0), (.s [])]),
      .st (.t 12) (.t 32) 2])
    (.q (.q (.o [.fa 33 (.t 12) 0,
      .ld 34 (.t 33) none,
      .cl (some 35) 28 [(.t 34), (.c (.i .i64 0)), (.c (.i .i64 65535))],
      .un 36 .not (.t 35),
      .mv 37 (.t 36),
      .gd 37 false (.fa 38 (.t 12) 1),
      .gd 37 false (.ld 39 (.t 38) none),
      .gd 37 false (.lns 40 (.t 39)),
      .gd 37 false (.bn 41 .gtr (.t 40) (.c (.i .i64 65535))),
      .pk 42 (.t 37) (.c (.b true)) (.t 41)])
    (.i (.t 42) (.q (.o [.bd 43 [(.s []), (.i .i64 0), (.i .i64 0), (.i .i64 0), (.s [])] [],
      .st (.t 8) (.t 43) 5,
      .mv 9 (.c (.i .i64 32))])
    (.r))
    (.k)))
    (.q (.p [⟨.mv 44 (.t 10), [], false⟩,
      ⟨.fa 45 (.t 12) 0, [], false⟩,
      ⟨.ld 46 (.t 45) none, [], false⟩,
      ⟨.cl (some 47) 29 [(.t 46)], [], true⟩,
      ⟨.fa 48 (.t 12) 1, [], false⟩,
      ⟨.ld 49 (.t 48) none, [3], false⟩,
      ⟨.lns 50 (.t 49), [], false⟩,
      ⟨.cl (some 51) 29 [(.t 50)], [], true⟩,
      ⟨.bn 52 .add (.t 47) (.t 51), [], false⟩,
      ⟨.fa 53 (.t 12) 1, [], false⟩,
      ⟨.ld 54 (.t 53) none, [3, 7], false⟩,
      ⟨.bn 55 .add (.t 52) (.t 54), [], false⟩,
      ⟨.bn 56 .add (.t 44) (.t 55), [], false⟩,
      ⟨.mv 10 (.t 56), [], false⟩])
    (.q (.o [.mv 57 (.t 10),
      .lns 58 (.t 57),
      .bn 59 .gtr (.t 58) (.c (.i .i64 65535))])
    (.i (.t 59) (.q (.o [.bd 60 [(.s []), (.i .i64 0), (.i .i64 0), (.i .i64 0), (.s [])] [],
      .st (.t 8) (.t 60) 5,
      .mv 9 (.c (.i .i64 32))])
    (.r))
    (.k)))))))
    (.o [.bn 61 .add (.t 29) (.c (.i .i64 1)),
      .mv 29 (.t 61)])))))))
    (.q (.o [.mv 62 (.t 0),
      .mv 63 (.t 1),
      .bn 64 .shl (.t 63) (.c (.i .u64 24)),
      .mv 65 (.t 2),
      .bn 66 .or (.t 64) (.t 65),
      .mv 67 (.t 10),
      .bd 68 [(.s []), (.i .i64 0), (.i .i64 0), (.i .i64 0), (.s [])] [(0, 1, (.c (.s [0]))), (1, 1, (.c (.i .i64 41))), (2, 1, (.t 62)), (3, 1, (.t 66)), (4, 1, (.t 67))],
      .st (.t 8) (.t 68) 5,
      .mv 9 (.c (.i .i64 0))])
    (.r)))))⟩
abbrev n_impl_EdnsRecord : Nat := 8
theorem k_impl_EdnsRecord : chkF Go.Proofs.Tryd.prog c_impl_EdnsRecord 8 = true := by kernel_rfl
/-- loop.example/s01858/spec.l04In -/
def c_spec_l04In : Fn := ⟨2, [(.t 4)],
    .q (.o [.mv 4 (.c (.b false))])
    (.q (.o [.mv 5 (.t 0),
      .bn 6 .geq (.t 5) (.c (.i .i64 0)),
      .mv 7 (.t 6),
      .gd 7 true (.mv 8 (.t 0)),
      .gd 7 true (.mv 9 (.t 1)),
      .gd 7 true (.bn 10 .leq (.t 8) (.t 9)),
      .pk 11 (.t 7) (.t 10) (.c (.b false)),
      .mv 4 (.t 11)])
    (.r))⟩
abbrev n_spec_l04In : Nat := 26
theorem k_spec_l04In : chkF Go.Proofs.Tryd.prog c_spec_l04In 26 = true := by kernel_rfl
/-- loop.example/s01858/spec.l02Put -/
def c_spec_l02Put : Fn := ⟨2, [(.t 4)],
    .q (.o [.mv 4 (.c (.s []))])
    (.q (.o [.bs 7 (.i .u8 0) 1 0 [],
      .mv 5 (.t 7)])
    (.q (.q (.o [.mv 8 (.t 1),
      .bn 9 .sub (.t 8) (.c (.i .i64 1)),
      .mv 6 (.t 9)])
    (.b 0 (.l [0, 5, 6] (.q (.q (.o [.mv 10 (.t 6),
      .bn 11 .geq (.t 10) (.c (.i .i64 0))])
    (.i (.t 11) (.k)
    (.x 0)))
    (.q (.b 1 (.o [.mv 14 (.t 5),
      .mv 15 (.t 0),
      .mv 16 (.t 6),
      .bn 17 .mul (.c (.i .i64 8)) (.t 16),
      .ci 18 .u64 (.t 17),
      .bn 19 .shr (.t 15) (.t 18),
      .ci 20 .u8 (.t 19),
      .lbs 21 (.i .u8 0) 1 1 [(0, (.t 20))],
      .ap 22 (.t 14) (.t 21) 1 1,
      .mv 5 (.t 22)]))
    (.o [.mv 12 (.t 6),
      .bn 13 .sub (.t 12) (.c (.i .i64 1)),
      .mv 6 (.t 13)]))))))
    (.q (.o [.mv 23 (.t 5),
      .cbs 24 (.t 23),
      .mv 4 (.t 24)])
    (.r))))⟩
abbrev n_spec_l02Put : Nat := 27
theorem k_spec_l02Put : chkF Go.Proofs.Tryd.prog c_spec_l02Put 27 = true := by kernel_rfl
/-- loop.example/s01858/impl.within -/
def c_impl_within : Fn := ⟨3, [(.t 6)],
    .q (.o [.mv 6 (.c (.b false))])
    (.q (.o [.mv 7 (.t 0),
      .mv 8 (.t 1),
      .bn 9 .geq (.t 7) (.t 8),
      .mv 10 (.t 9),
      .gd 10 true (.mv 11 (.t 0)),
      .gd 10 true (.mv 12 (.t 2)),
      .gd 10 true (.bn 13 .leq (.t 11) (.t 12)),
      .pk 14 (.t 10) (.t 13) (.c (.b false)),
      .mv 6 (.t 14)])
    (.r))⟩
abbrev n_impl_within : Nat := 28
theorem k_impl_within : chkF Go.Proofs.Tryd.prog c_impl_within 28 = true := by kernel_rfl
/-- loop.example/s01858/impl.p16 -/
def c_impl_p16 : Fn := ⟨1, [(.t 2)],
    .q (.o [.mv 2 (.c (.s []))])
    (.q (.o [.mv 3 (.t 0),
      .bn 4 .shr (.t 3) (.c (.i .u64 8)),
      .ci 5 .u8 (.t 4),
      .mv 6 (.t 0),
      .ci 7 .u8 (.t 6),
      .bs 8 (.i .u8 0) 1 2 [(0, (.t 5)), (1, (.t 7))],
      .cbs 9 (.t 8),
      .mv 2 (.t 9)])
    (.r))⟩
abbrev n_impl_p16 : Nat := 29
theorem k_impl_p16 : chkF Go.Proofs.Tryd.prog c_impl_p16 29 = true := by kernel_rfl
/-- loop.example/s01858/laws.eqRR -/
def c_laws_eqRR : Fn := ⟨2, [(.t 4)],
    .q (.o [.lbx 2 (.t 0),
      .lbx 3 (.t 1),
      .mv 4 (.c (.b false))])
    (.q (.q (.o [.fa 5 (.t 2) 0,
      .ld 6 (.t 5) none,
      .fa 7 (.t 3) 0,
      .ld 8 (.t 7) none,
      .bn 9 .neq (.t 6) (.t 8)])
    (.i (.t 9) (.q (.o [.mv 4 (.c (.b false))])
    (.r))
    (.k)))
    (.q (.q (.o [.fa 10 (.t 2) 1,
      .ld 11 (.t 10) none,
      .fa 12 (.t 3) 1,
      .ld 13 (.t 12) none,
      .bn 14 .neq (.t 11) (.t 13)])
    (.i (.t 14) (.q (.o [.mv 4 (.c (.b false))])
    (.r))
    (.k)))
    (.q (.q (.o [.fa 15 (.t 2) 2,
      .ld 16 (.t 15) none,
      .fa 17 (.t 3) 2,
      .ld 18 (.t 17) none,
      .bn 19 .neq (.t 16) (.t 18)])
    (.i (.t 19) (.q (.o [.mv 4 (.c (.b false))])
    (.r))
    (.k)))
    (.q (.q (.o [.fa 20 (.t 2) 3,
      .ld 21 (.t 20) none,
      .fa 22 (.t 3) 3,
      .ld 23 (.t 22) none,
      .bn 24 .neq (.t 21) (.t 23)])
    (.i (.t 24) (.q (.o [.mv 4 (.c (.b false))])
    (.r))
    (.k)))
    (.q (.q (.o [.fa 25 (.t 2) 4,
      .ld 26 (.t 25) none,
      .fa 27 (.t 3) 4,
      .ld 28 (.t 27) none,
      .bn 29 .neq (.t 26) (.t 28)])
    (.i (.t 29) (.q (.o [.mv 4 (.c (.b false))])
    (.r))
    (.k)))
    (.q (.o [.mv 4 (.c (.b true))])
    (.r)))))))⟩
abbrev n_laws_eqRR : Nat := 81
theorem k_laws_eqRR : chkF Go.Proofs.Tryd.prog c_laws_eqRR 81 = true := by kernel_rfl
/-- loop.example/s01858/laws.szOption (not in this seat) -/
def c_laws_szOption : Fn := ⟨2, [(.t 4)],
    .q (.o [.lbx 2 (.t 0),
      .mv 4 (.c (.i .i64 0))])
    (.q (.o [.mv 5 (.t 1),
      .fa 6 (.t 2) 1,
      .ld 7 (.t 6) none,
      .lns 8 (.t 7),
      .bn 9 .sub (.t 5) (.t 8),
      .mv 1 (.t 9)])
    (.q (.q (.o [.mv 10 (.t 1),
      .bn 11 .lss (.t 10) (.c (.i .i64 0))])
    (.i (.t 11) (.q (.o [.mv 4 (.c (.i .i64 (-1)))])
    (.r))
    (.k)))
    (.q (.o [.mv 12 (.t 1),
      .mv 4 (.t 12)])
    (.r))))⟩
abbrev n_laws_szOption : Nat := 100031
/-- loop.example/s01858/laws.szOptionS (not in this seat) -/
def c_laws_szOptionS : Fn := ⟨2, [(.t 4)],
    .q (.o [.mv 4 (.c (.i .i64 0))])
    (.q (.o [.mv 6 (.t 1),
      .mv 7 (.t 0),
      .ln 8 (.t 7),
      .bn 9 .sub (.t 6) (.t 8),
      .mv 1 (.t 9)])
    (.q (.q (.o [.mv 10 (.t 1),
      .bn 11 .lss (.t 10) (.c (.i .i64 0))])
    (.i (.t 11) (.q (.o [.mv 4 (.c (.i .i64 (-1)))])
    (.r))
    (.k)))
    (.q (.q (.o [.mv 5 (.c (.i .i64 0))])
    (.b 0 (.l [0, 1, 5] (.q (.q (.o [.mv 12 (.t 5),
      .mv 13 (.t 0),
      .ln 14 (.t 13),
      .bn 15 .lss (.t 12) (.t 14)])
    (.i (.t 15) (.k)
    (.x 0)))
    (.q (.b 1 (.q (.o [.mv 18 (.t 0),
      .mv 19 (.t 5),
      .ia 20 (.t 18) (.t 19) 2,
      .ld 21 (.t 20) (some 2),
      .mv 22 (.t 1),
      .cl (some 23) 31 [(.t 21), (.t 22)],
      .mv 1 (.t 23)])
    (.q (.o [.mv 24 (.t 1),
      .bn 25 .lss (.t 24) (.c (.i .i64 0))])
    (.i (.t 25) (.q (.o [.mv 4 (.c (.i .i64 (-1)))])
    (.r))
    (.k)))))
    (.o [.mv 16 (.t 5),
      .bn 17 .add (.t 16) (.c (.i .i64 1)),
      .mv 5 (.t 17)]))))))
    (.q (.o [.mv 26 (.t 1),
      .mv 4 (.t 26)])
    (.r)))))⟩
abbrev n_laws_szOptionS : Nat := 100015
/-- loop.example/s01858/laws.toOption (not in this seat) -/
def c_laws_toOption : Fn := ⟨1, [(.c 2 (some 2))],
    .q (.o [.lbx 1 (.t 0),
      .lal 2 (.ag [(.i .i64 0), (.s [])])])
    (.q (.o [.lal 3 (.ag [(.i .i64 0), (.s [])])])
    (.q (.o [.fa 4 (.t 1) 0,
      .ld 5 (.t 4) none,
      .fa 6 (.t 3) 0,
      .st (.t 6) (.t 5) 1])
    (.q (.o [.fa 7 (.t 1) 1,
      .ld 8 (.t 7) none,
      .fa 9 (.t 3) 1,
      .st (.t 9) (.t 8) 1])
    (.q (.o [.ld 10 (.t 3) (some 2),
      .st (.t 2) (.t 10) 2])
    (.r)))))⟩
abbrev n_laws_toOption : Nat := 100034
/-- loop.example/s01858/laws.toOptionS (not in this seat) -/
def c_laws_toOptionS : Fn := ⟨1, [(.t 2)],
    .q (.o [.mv 2 (.c .ns)])
    (.q (.o [.mv 5 (.t 0),
      .ln 6 (.t 5),
      .mk 7 (.ag [(.i .i64 0), (.s [])]) 2 24 (.t 6),
      .mv 3 (.t 7)])
    (.q (.q (.o [.mv 4 (.c (.i .i64 0))])
    (.b 0 (.l [0, 3, 4] (.q (.q (.o [.mv 8 (.t 4),
      .mv 9 (.t 0),
      .ln 10 (.t 9),
      .bn 11 .lss (.t 8) (.t 10)])
    (.i (.t 11) (.k)
    (.x 0)))
    (.q (.b 1 (.o [.mv 14 (.t 3),
      .mv 15 (.t 4),
      .mv 16 (.t 0),
      .mv 17 (.t 4),
      .ia 18 (.t 16) (.t 17) 2,
      .ld 19 (.t 18) (some 2),
      .cl (some 20) 34 [(.t 19)],
      .ia 21 (.t 14) (.t 15) 2,
      .st (.t 21) (.t 20) 2]))
    (.o [.mv 12 (.t 4),
      .bn 13 .add (.t 12) (.c (.i .i64 1)),
      .mv 4 (.t 13)]))))))
    (.q (.o [.mv 22 (.t 3),
      .mv 2 (.t 22)])
    (.r))))⟩
abbrev n_laws_toOptionS : Nat := 100017
/-- loop.example/s01858/laws.eqOption (not in this seat) -/
def c_laws_eqOption : Fn := ⟨2, [(.t 4)],
    .q (.o [.lbx 2 (.t 0),
      .lbx 3 (.t 1),
      .mv 4 (.c (.b false))])
    (.q (.q (.o [.fa 5 (.t 2) 0,
      .ld 6 (.t 5) none,
      .fa 7 (.t 3) 0,
      .ld 8 (.t 7) none,
      .bn 9 .neq (.t 6) (.t 8)])
    (.i (.t 9) (.q (.o [.mv 4 (.c (.b false))])
    (.r))
    (.k)))
    (.q (.q (.o [.fa 10 (.t 2) 1,
      .ld 11 (.t 10) none,
      .fa 12 (.t 3) 1,
      .ld 13 (.t 12) none,
      .bn 14 .neq (.t 11) (.t 13)])
    (.i (.t 14) (.q (.o [.mv 4 (.c (.b false))])
    (.r))
    (.k)))
    (.q (.o [.mv 4 (.c (.b true))])
    (.r))))⟩
abbrev n_laws_eqOption : Nat := 100037
/-- loop.example/s01858/laws.eqOptionS (not in this seat) -/
def c_laws_eqOptionS : Fn := ⟨2, [(.t 4)],
    .q (.o [.mv 4 (.c (.b false))])
    (.q (.q (.o [.mv 6 (.t 0),
      .ln 7 (.t 6),
      .mv 8 (.t 1),
      .ln 9 (.t 8),
      .bn 10 .neq (.t 7) (.t 9)])
    (.i (.t 10) (.q (.o [.mv 4 (.c (.b false))])
    (.r))
    (.k)))
    (.q (.q (.o [.mv 5 (.c (.i .i64 0))])
    (.b 0 (.l [0, 1, 5] (.q (.q (.o [.mv 11 (.t 5),
      .mv 12 (.t 0),
      .ln 13 (.t 12),
      .bn 14 .lss (.t 11) (.t 13)])
    (.i (.t 14) (.k)
    (.x 0)))
    (.q (.b 1 (.q (.p [⟨.mv 17 (.t 0), [], false⟩,
      ⟨.mv 18 (.t 5), [], false⟩,
      ⟨.ia 19 (.t 17) (.t 18) 2, [], false⟩,
      ⟨.ld 20 (.t 19) (some 2), [], false⟩,
      ⟨.mv 21 (.t 1), [], false⟩,
      ⟨.mv 22 (.t 5), [], false⟩,
      ⟨.ia 23 (.t 21) (.t 22) 2, [], false⟩,
      ⟨.ld 24 (.t 23) (some 2), [], false⟩,
      ⟨.cl (some 25) 37 [(.t 20), (.t 24)], [], false⟩,
      ⟨.un 26 .not (.t 25), [], false⟩])
    (.i (.t 26) (.q (.o [.mv 4 (.c (.b false))])
    (.r))
    (.k))))
    (.o [.mv 15 (.t 5),
      .bn 16 .add (.t 15) (.c (.i .i64 1)),
      .mv 5 (.t 16)]))))))
    (.q (.o [.mv 4 (.c (.b true))])
    (.r))))⟩
abbrev n_laws_eqOptionS : Nat := 100020
/-- loop.example/s01858/laws.FnExactEdnsRecord (not in this seat) -/
def c_laws_FnExactEdnsRecord : Fn := ⟨4, [(.t 8)],
    .q (.o [.mv 8 (.c (.b false))])
    (.q (.o [.mv 9 (.c (.i .i64 1048576))])
    (.q (.o [.mv 15 (.t 3),
      .mv 16 (.t 9),
      .cl (some 17) 15 [(.t 15), (.t 16)],
      .mv 9 (.t 17)])
    (.q (.q (.o [.mv 18 (.t 9),
      .bn 19 .lss (.t 18) (.c (.i .i64 0))])
    (.i (.t 19) (.q (.o [.mv 8 (.c (.b true))])
    (.r))
    (.k)))
    (.q (.o [.mv 21 (.t 0),
      .mv 22 (.t 1),
      .mv 23 (.t 2),
      .mv 24 (.t 3),
      .cl (some 25) 17 [(.t 24)],
      .cl (some 26) 16 [(.t 21), (.t 22), (.t 23), (.t 25)],
      .mv 20 (.t 26),
      .ex 27 (.t 20) 0,
      .ex 28 (.t 20) 1,
      .lal 10 (.ag [(.s []), (.i .i64 0), (.i .i64 0), (.i .i64 0), (.s [])]),
      .st (.t 10) (.t 27) 5,
      .mv 11 (.t 28)])
    (.q (.o [.mv 29 (.t 3),
      .cl (some 30) 17 [(.t 29)],
      .mv 12 (.t 30)])
    (.q (.o [.mv 32 (.t 0),
      .mv 33 (.t 1),
      .mv 34 (.t 2),
      .mv 35 (.t 12),
      .cl (some 36) 18 [(.t 32), (.t 33), (.t 34), (.t 35)],
      .mv 31 (.t 36),
      .ex 37 (.t 31) 0,
      .ex 38 (.t 31) 1,
      .lal 13 (.ag [(.s []), (.i .i64 0), (.i .i64 0), (.i .i64 0), (.s [])]),
      .st (.t 13) (.t 37) 5,
      .mv 14 (.t 38)])
    (.q (.q (.o [.ld 39 (.t 13) (some 5),
      .ld 40 (.t 10) (some 5),
      .cl (some 41) 19 [(.t 39), (.t 40)],
      .un 42 .not (.t 41),
      .mv 43 (.t 42),
      .gd 43 false (.mv 44 (.t 14)),
      .gd 43 false (.mv 45 (.t 11)),
      .gd 43 false (.bn 46 .neq (.t 44) (.t 45)),
      .pk 47 (.t 43) (.c (.b true)) (.t 46)])
    (.i (.t 47) (.q (.o [.mv 8 (.c (.b false))])
    (.r))
    (.k)))
    (.q (.q (.o [.mv 48 (.t 12),
      .mv 49 (.t 3),
      .cl (some 50) 17 [(.t 49)],
      .cl (some 51) 20 [(.t 48), (.t 50)],
      .un 52 .not (.t 51)])
    (.i (.t 52) (.q (.o [.mv 8 (.c (.b false))])
    (.r))
    (.k)))
    (.q (.o [.mv 8 (.c (.b true))])
    (.r))))))))))⟩
abbrev n_laws_FnExactEdnsRecord : Nat := 10004
end Go.Vm

/- Runs of helpers of EdnsRecord. -/
namespace Go.Vm
set_option linter.unusedVariables false
set_option linter.unusedSimpArgs false
/-- An option: its cells. -/
def encO (o : Int × List UInt8) : AV := .ag [.i .i64 o.1, .s o.2]
theorem Mb.new2 {H : AH} {l : List UInt8} {n : Nat} (h : l.length = n) : Mb (H.new (.arr true 0 1 (encB l))) (.sl H.n 0 n) l := by
  subst h
  have := Mn.own (H := H.new (.arr true 0 1 (encB l))) (z := 1) (by simp) new_at
  rwa [enc_len] at this
section
variable {C : Tab}
theorem r_szOption {o : Int × List UInt8} {left : Int} {H : AH} (h : 0 ≤ left) (hl : left ≤ 1099511627776) (hd : o.2.length ≤ 9223372036854775807) : Runs C c_laws_szOption [encO o, .i .i64 left] H fun v H' => H' = H ∧ v = .i .i64 (if left - o.2.length < 0 then -1 else left - o.2.length) := by
  unfold Runs c_laws_szOption encO
  have hw : IntKind.i64.wrap (left - (o.2.length : Int)) = left - (o.2.length : Int) := w64 (by omega) (by omega)
  by_cases hn : left - (o.2.length : Int) < 0
  · simp only [bU, reduceIte, Nat.reduceEqDiff, reduceCtorEq, implies_true, forall_const, eq_self, Nat.reduceAdd, Nat.reduceLT, bne_self_eq_false, bT, eq_self, true_implies, false_implies, forall_const, if_true, if_false, Int.reduceToNat, Nat.reduceSub, Int.reduceLE, bV, Nat.reduceAdd, Nat.reduceLT, Nat.reduceLeDiff, Nat.reduceLeDiff, hw, hn, endK, rsC, rsV, resV]
  · simp only [bU, reduceIte, Nat.reduceEqDiff, reduceCtorEq, implies_true, forall_const, eq_self, Nat.reduceAdd, Nat.reduceLT, bne_self_eq_false, bT, eq_self, true_implies, false_implies, forall_const, if_true, if_false, Int.reduceToNat, Nat.reduceSub, Int.reduceLE, bV, Nat.reduceAdd, Nat.reduceLT, Nat.reduceLeDiff, Nat.reduceLeDiff, hw, hn, endK, rsC, rsV, resV]
theorem r_toOption {o : Int × List UInt8} {H : AH} : Runs C c_laws_toOption [encO o] H fun v H' => H' = H ∧ v = encO o := by
  unfold Runs c_laws_toOption encO
  simp only [bU, reduceIte, Nat.reduceEqDiff, reduceCtorEq, implies_true, forall_const, eq_self, Nat.reduceAdd, Nat.reduceLT, bne_self_eq_false, bT, eq_self, true_implies, false_implies, forall_const, if_true, if_false, Int.reduceToNat, Nat.reduceSub, Int.reduceLE, bV, Nat.reduceAdd, Nat.reduceLT, Nat.reduceLeDiff, Nat.reduceLeDiff, endK, rsC, rsV, resV]
theorem r_eqOption {o : Int × List UInt8} {H : AH} : Runs C c_laws_eqOption [encO o, encO o] H fun v H' => H' = H ∧ v = .b true := by
  unfold Runs c_laws_eqOption encO
  simp only [bU, reduceIte, Nat.reduceEqDiff, reduceCtorEq, implies_true, forall_const, eq_self, Nat.reduceAdd, Nat.reduceLT, bne_self_eq_false, bT, eq_self, true_implies, false_implies, forall_const, if_true, if_false, Int.reduceToNat, Nat.reduceSub, Int.reduceLE, bV, Nat.reduceAdd, Nat.reduceLT, Nat.reduceLeDiff, Nat.reduceLeDiff, endK, rsC, rsV, resV]
/-- A record: its cells. -/
structure Rr where
  o : List UInt8
  t : Int
  c : Int
  ttl : Int
  d : List UInt8
def encR (r : Rr) : AV := .ag [.s r.o, .i .i64 r.t, .i .i64 r.c, .i .i64 r.ttl, .s r.d]
theorem r_eqRR {r : Rr} {H : AH} : Runs C c_laws_eqRR [encR r, encR r] H fun v H' => H' = H ∧ v = .b true := by
  unfold Runs c_laws_eqRR encR
  simp only [bU, reduceIte, Nat.reduceEqDiff, reduceCtorEq, implies_true, forall_const, eq_self, Nat.reduceAdd, Nat.reduceLT, bne_self_eq_false, bT, eq_self, true_implies, false_implies, forall_const, if_true, if_false, Int.reduceToNat, Nat.reduceSub, Int.reduceLE, bV, Nat.reduceAdd, Nat.reduceLT, Nat.reduceLeDiff, Nat.reduceLeDiff, endK, rsC, rsV, resV]
theorem r_l04In {x m : Int} {H : AH} : Runs C c_spec_l04In [.i .i64 x, .i .i64 m] H fun v H' => H' = H ∧ v = .b (decide (0 ≤ x ∧ x ≤ m)) := by
  unfold Runs c_spec_l04In
  by_cases h : 0 ≤ x
  · by_cases h' : x ≤ m <;> simp only [bU, reduceIte, Nat.reduceEqDiff, reduceCtorEq, implies_true, forall_const, eq_self, Nat.reduceAdd, Nat.reduceLT, bne_self_eq_false, bT, eq_self, true_implies, false_implies, forall_const, if_true, if_false, Int.reduceToNat, Nat.reduceSub, Int.reduceLE, bV, Nat.reduceAdd, Nat.reduceLT, Nat.reduceLeDiff, Nat.reduceLeDiff, h, h', endK, rsC, rsV, resV]
  · simp only [bU, reduceIte, Nat.reduceEqDiff, reduceCtorEq, implies_true, forall_const, eq_self, Nat.reduceAdd, Nat.reduceLT, bne_self_eq_false, bT, eq_self, true_implies, false_implies, forall_const, if_true, if_false, Int.reduceToNat, Nat.reduceSub, Int.reduceLE, bV, Nat.reduceAdd, Nat.reduceLT, Nat.reduceLeDiff, Nat.reduceLeDiff, h, endK, rsC, rsV, resV, false_and]
theorem r_within {x lo m : Int} {H : AH} : Runs C c_impl_within [.i .i64 x, .i .i64 lo, .i .i64 m] H fun v H' => H' = H ∧ v = .b (decide (lo ≤ x ∧ x ≤ m)) := by
  unfold Runs c_impl_within
  by_cases h : lo ≤ x
  · by_cases h' : x ≤ m <;> simp only [bU, reduceIte, Nat.reduceEqDiff, reduceCtorEq, implies_true, forall_const, eq_self, Nat.reduceAdd, Nat.reduceLT, bne_self_eq_false, bT, eq_self, true_implies, false_implies, forall_const, if_true, if_false, Int.reduceToNat, Nat.reduceSub, Int.reduceLE, bV, Nat.reduceAdd, Nat.reduceLT, Nat.reduceLeDiff, Nat.reduceLeDiff, h, h', endK, rsC, rsV, resV]
  · simp only [bU, reduceIte, Nat.reduceEqDiff, reduceCtorEq, implies_true, forall_const, eq_self, Nat.reduceAdd, Nat.reduceLT, bne_self_eq_false, bT, eq_self, true_implies, false_implies, forall_const, if_true, if_false, Int.reduceToNat, Nat.reduceSub, Int.reduceLE, bV, Nat.reduceAdd, Nat.reduceLT, Nat.reduceLeDiff, Nat.reduceLeDiff, h, endK, rsC, rsV, resV, false_and]
def be16 (n : Nat) : List UInt8 := [UInt8.ofNat (n / 256), UInt8.ofNat n]
theorem r_p16 {n : Nat} {H : AH} (hn : n ≤ 65535) : Runs C c_impl_p16 [.i .i64 n] H fun v H' => Ext H H' ∧ v = .s (be16 n) := by
  unfold Runs c_impl_p16
  have v3 : (2 : Int) ^ (min 8 IntKind.i64.bits) = 256 := by decide
  have v4 : (n : Int).fdiv 256 = ((n / 256 : Nat) : Int) := by
    rw [Int.fdiv_eq_ediv_of_nonneg _ (by omega)]; omega
  have hm : Mb (H.new (.arr true 0 1 (encB (be16 n)))) (.sl H.n 0 2) (be16 n) := Mb.new2 rfl
  obtain ⟨c1, c2⟩ := Byt.cbs hm.sl
  simp only [encB, be16, List.map_cons, List.map_nil] at c1 c2
  simp only [bU, reduceIte, Nat.reduceEqDiff, reduceCtorEq, implies_true, forall_const, eq_self, Nat.reduceAdd, Nat.reduceLT, bne_self_eq_false, bT, eq_self, true_implies, false_implies, forall_const, if_true, if_false, Int.reduceToNat, Nat.reduceSub, Int.reduceLE, bV, Nat.reduceAdd, Nat.reduceLT, Nat.reduceLeDiff, Nat.reduceLeDiff, v3, v4, u8w, fillEC, fillE, List.replicate, List.set_cons_succ, List.set, c1, c2, endK, rsC, rsV, resV]
  exact ⟨Ext.new _ _, rfl⟩
/-- A number's bytes, the high one first. -/
def beK (n : Nat) : Nat → List UInt8
  | 0 => []
  | k + 1 => UInt8.ofNat (n / 256 ^ k) :: beK n k
theorem r_l02Put {n k : Nat} {H : AH} (hn : n ≤ 4611686018427387904) (hk : k ≤ 8) : Runs C c_spec_l02Put [.i .i64 n, .i .i64 k] H fun v H' => Ext H H' ∧ v = .s (beK n k) := by
  unfold Runs c_spec_l02Put
  have hw : IntKind.i64.wrap ((k : Int) - 1) = (k : Int) - 1 := w64 (by omega) (by omega)
  simp only [bS, reduceIte, Nat.reduceEqDiff, bT, eq_self, true_implies, false_implies, forall_const, if_true, if_false, Int.reduceToNat, Nat.reduceSub, Int.reduceLE, hw]
  refine exec_loop (fun m e M => ∃ o done L g H', m ≤ k ∧ look e 0 = .i .i64 n ∧ look e 5 = o ∧ look e 6 = .i .i64 ((m : Int) - 1) ∧ M = ⟨L, g, H'⟩ ∧ Mb H' o done ∧ Ext H H' ∧ (∀ i, i ∈ idA o → H.n ≤ i) ∧ done.length + m = k ∧ beK n k = done ++ beK n m) ?_ (n := k)
    ⟨.sl H.n 0 0, [], _, _, _, Nat.le_refl _, rfl, rfl, rfl, rfl, Mb.new2 (l := []) rfl, Ext.new _ _, by simp [idA], by simp, rfl⟩
  rintro m e M ⟨o, done, L, g, H', hm, q0, q5, q6, rfl, mb, he, hid, hlen, hbe⟩
  cases m with
  | zero =>
    have e1 : ¬ (0 : Int) ≤ ((0 : Nat) : Int) - 1 := by omega
    obtain ⟨c1, c2⟩ := Byt.cbs mb.sl
    simp only [bU, reduceIte, Nat.reduceEqDiff, reduceCtorEq, implies_true, forall_const, eq_self, Nat.reduceAdd, Nat.reduceLT, bne_self_eq_false, bT, eq_self, true_implies, false_implies, forall_const, if_true, if_false, Int.reduceToNat, Nat.reduceSub, Int.reduceLE, q0, q5, q6, e1, c1, c2, endK, rsC, rsV, resV]
    exact ⟨he, by rw [hbe]; simp [beK]⟩
  | succ m =>
    have e1 : (0 : Int) ≤ ((m + 1 : Nat) : Int) - 1 := by omega
    have e2 : ((m + 1 : Nat) : Int) - 1 = (m : Int) := by omega
    have w1 : IntKind.i64.wrap (8 * (m : Int)) = 8 * (m : Int) := w64 (by omega) (by omega)
    have w2 : IntKind.u64.wrap (8 * (m : Int)) = 8 * (m : Int) := by rw [IntKind.wrap_u64]; omega
    have w3 : min ((8 * (m : Int)).toNat) IntKind.i64.bits = 8 * m := by
      have : IntKind.i64.bits = 64 := rfl
      omega
    have w4 : (n : Int).fdiv (2 ^ (8 * m)) = ((n / 256 ^ m : Nat) : Int) := by
      have h2 : (256 : Nat) ^ m = 2 ^ (8 * m) := by rw [Nat.pow_mul]
      rw [Int.fdiv_eq_ediv_of_nonneg _ (Int.le_of_lt (Int.pow_pos (by decide))), h2, Int.natCast_ediv, Int.natCast_pow]
      rfl
    have w5 : IntKind.i64.wrap ((m : Int) - 1) = (m : Int) - 1 := w64 (by omega) (by omega)
    have w6 : (0 : Int) ≤ 8 * (m : Int) := by omega
    have hsrc := lit_src (t := 21) (g := g) (x := .i .u8 (UInt8.ofNat (n / 256 ^ m)).toNat) (L := dropL (keepL [0, 5, 6] L) 21) (H := H')
    obtain ⟨p1, o', H2, p2, p3, p4, p5, p6, p7, -⟩ := Mn.ap (by' := 1) mb hsrc (by simp; omega)
    have e3 : (0 : Int) ≤ (m : Int) := by omega
    simp only [bU, reduceIte, Nat.reduceEqDiff, reduceCtorEq, implies_true, forall_const, eq_self, Nat.reduceAdd, Nat.reduceLT, bne_self_eq_false, bT, eq_self, true_implies, false_implies, forall_const, if_true, if_false, Int.reduceToNat, Nat.reduceSub, Int.reduceLE, q0, q5, q6, e1, e2, e3, w1, w2, w3, w4, w5, w6, u8w, p1, p2, p3]
    refine ⟨m, by omega, o', done ++ [UInt8.ofNat (n / 256 ^ m)], _, _, H2, by omega, rfl, rfl, rfl, ?_, he.put hid p5 p6, ?_, by simp; omega, by rw [hbe]; simp [beK]⟩
    · unfold Mb; rw [enc_app]; exact p4
    · intro i hi
      rcases p7 i hi with h | h
      · exact hid i h
      · have := he.n; omega
end
end Go.Vm

/- EdnsRecord: the pure answer, and the spec's run. -/
namespace Go.Vm
set_option linter.unusedVariables false
set_option linter.unusedSimpArgs false
abbrev Opt := Int × List UInt8
def eO : Enc Opt := ⟨2, fun o => [.i .i64 o.1, .s o.2], fun _ => rfl⟩
def eR : Enc Rr := ⟨5, fun r => [.s r.o, .i .i64 r.t, .i .i64 r.c, .i .i64 r.ttl, .s r.d], fun _ => rfl⟩
def wO (o : Opt) : Nat := o.2.length
def preO (o : Opt) : Prop := o.2.length ≤ 9223372036854775807
def wire (o : Opt) : List UInt8 := be16 o.1.toNat ++ be16 o.2.length ++ o.2
def datO (os : List Opt) : List UInt8 := os.flatMap wire
def optOk (o : Opt) : Prop := 0 ≤ o.1 ∧ o.1 ≤ 65535 ∧ o.2.length ≤ 65535
instance (o : Opt) : Decidable (optOk o) := inferInstanceAs (Decidable (_ ∧ _ ∧ _))
def rr0 : Rr := ⟨[], 0, 0, 0, []⟩
def ednsOk (size code flags : Int) (os : List Opt) : Prop := (0 ≤ size ∧ size ≤ 65535) ∧ (0 ≤ flags ∧ flags ≤ 65535) ∧ (0 ≤ code ∧ code ≤ 255) ∧ (∀ o, o ∈ os → optOk o) ∧ (datO os).length ≤ 65535
def ednsR (size code flags : Int) (os : List Opt) : Rr := ⟨[0], 41, size, code * 16777216 + flags, datO os⟩
def EdPost (size code flags : Int) (os : List Opt) (H : AH) (v : AV) (H' : AH) : Prop := Ext H H' ∧ ((ednsOk size code flags os ∧ v = .tp [eR.v (ednsR size code flags os), .i .i64 0]) ∨ (¬ ednsOk size code flags os ∧ v = .tp [eR.v rr0, .i .i64 32]))
theorem datO_len : ∀ os : List Opt, (datO os).length = 4 * os.length + tot' wO os
  | [] => rfl
  | o :: r => by
    have := datO_len r
    simp only [datO, List.flatMap_cons, List.length_append, List.length_cons, tot', wO, wire, be16, List.length_nil] at *
    omega
theorem datO_snoc (os : List Opt) (o : Opt) : datO (os ++ [o]) = datO os ++ wire o := by simp [datO]
theorem datO_pre {os : List Opt} (i : Nat) : (datO (os.take i)).length ≤ (datO os).length := by
  conv => rhs; rw [← List.take_append_drop i os]
  rw [show datO (os.take i ++ os.drop i) = datO (os.take i) ++ datO (os.drop i) from List.flatMap_append]
  simp
def T_in (C : Tab) (f : Nat) : Prop := ∀ (x m : Int) (H : AH), C f [.i .i64 x, .i .i64 m] H = some (.b (decide (0 ≤ x ∧ x ≤ m)), H)
def T_within (C : Tab) (f : Nat) : Prop := ∀ (x lo m : Int) (H : AH), C f [.i .i64 x, .i .i64 lo, .i .i64 m] H = some (.b (decide (lo ≤ x ∧ x ≤ m)), H)
def T_p16 (C : Tab) (f : Nat) : Prop := ∀ (n : Nat) (H : AH), n ≤ 65535 → ∃ H', C f [.i .i64 n] H = some (.s (be16 n), H') ∧ Ext H H'
def T_put2 (C : Tab) (f : Nat) : Prop := ∀ (n : Nat) (H : AH), n ≤ 65535 → ∃ H', C f [.i .i64 n, .i .i64 2] H = some (.s (be16 n), H') ∧ Ext H H'
section
variable {C : Tab}
theorem r_spec_EdnsRecord {a : AV} {os : List Opt} {size code flags : Int} {H : AH} (hI : T_in C n_spec_l04In) (hP : T_put2 C n_spec_l02Put) (h : Sx H eO a os) (hn : os.length + tot' wO os ≤ 1048576) :
    Runs C c_spec_EdnsRecord [.i .i64 size, .i .i64 code, .i .i64 flags, a] H (EdPost size code flags os H) := by
  unfold Runs c_spec_EdnsRecord
  have i1 := hI size 65535 H
  have i2 := hI flags 65535 H
  have i3 := hI code 255 H
  obtain ⟨h1, h2⟩ := h.len
  by_cases c1 : 0 ≤ size ∧ size ≤ 65535
  case neg =>
    rw [decide_eq_false c1] at i1
    simp only [bU, reduceIte, Nat.reduceEqDiff, reduceCtorEq, implies_true, forall_const, eq_self, Nat.reduceAdd, Nat.reduceLT, bne_self_eq_false, bT, eq_self, true_implies, false_implies, forall_const, if_true, if_false, Int.reduceToNat, Nat.reduceSub, Int.reduceLE, bV, Nat.reduceAdd, Nat.reduceLT, Nat.reduceLeDiff, Nat.reduceLeDiff, i1, endK, rsC, rsV, resV]
    exact ⟨.refl _, .inr ⟨fun hk => c1 hk.1, rfl⟩⟩
  rw [decide_eq_true c1] at i1
  by_cases c2 : 0 ≤ flags ∧ flags ≤ 65535
  case neg =>
    rw [decide_eq_false c2] at i2
    simp only [bU, reduceIte, Nat.reduceEqDiff, reduceCtorEq, implies_true, forall_const, eq_self, Nat.reduceAdd, Nat.reduceLT, bne_self_eq_false, bT, eq_self, true_implies, false_implies, forall_const, if_true, if_false, Int.reduceToNat, Nat.reduceSub, Int.reduceLE, bV, Nat.reduceAdd, Nat.reduceLT, Nat.reduceLeDiff, Nat.reduceLeDiff, i1, i2, endK, rsC, rsV, resV]
    exact ⟨.refl _, .inr ⟨fun hk => c2 hk.2.1, rfl⟩⟩
  rw [decide_eq_true c2] at i2
  by_cases c3 : 0 ≤ code ∧ code ≤ 255
  case neg =>
    rw [decide_eq_false c3] at i3
    simp only [bU, reduceIte, Nat.reduceEqDiff, reduceCtorEq, implies_true, forall_const, eq_self, Nat.reduceAdd, Nat.reduceLT, bne_self_eq_false, bT, eq_self, true_implies, false_implies, forall_const, if_true, if_false, Int.reduceToNat, Nat.reduceSub, Int.reduceLE, bV, Nat.reduceAdd, Nat.reduceLT, Nat.reduceLeDiff, Nat.reduceLeDiff, i1, i2, i3, endK, rsC, rsV, resV]
    exact ⟨.refl _, .inr ⟨fun hk => c3 hk.2.2.1, rfl⟩⟩
  rw [decide_eq_true c3] at i3
  simp only [bU, reduceIte, Nat.reduceEqDiff, reduceCtorEq, implies_true, forall_const, eq_self, Nat.reduceAdd, Nat.reduceLT, bne_self_eq_false, bT, eq_self, true_implies, false_implies, forall_const, if_true, if_false, Int.reduceToNat, Nat.reduceSub, Int.reduceLE, bV, Nat.reduceAdd, Nat.reduceLT, Nat.reduceLeDiff, Nat.reduceLeDiff, i1, i2, i3, h1, h2]
  refine exec_loop (fun n e M => ∃ (i : Nat) (o : AV) (H' : AH) (L : List Lv) (g : Nat), i ≤ os.length ∧ n = os.length - i ∧ look e 0 = .i .i64 size ∧ look e 1 = .i .i64 code ∧ look e 2 = .i .i64 flags ∧ look e 3 = a ∧ look e 8 = .la 8 0 0 0 ∧ look e 10 = o ∧ look e 11 = .i .i64 i ∧
    M = ⟨L, g, H'⟩ ∧ keepL [0, 1, 2, 3, 8, 10, 11] L = [⟨8, 0, 0, [.ag [.s [], .i .i64 0, .i .i64 0, .i .i64 0, .s []]]⟩] ∧ Mb H' o (datO (os.take i)) ∧ Ext H H' ∧ (∀ j, j ∈ idA o → H.n ≤ j) ∧ ∀ x, x ∈ os.take i → optOk x) ?_ (n := os.length)
    ⟨0, _, _, _, _, by omega, by omega, rfl, rfl, rfl, rfl, rfl, rfl, rfl, rfl, rfl, Mb.new2 (l := []) rfl, .new _ _, fun j hj => by simp [idA, look] at hj; omega, by simp⟩
  rintro n e M ⟨i, o, H', L, g, hi, rfl, q0, q1, q2, q3, q8, q10, q11, rfl, hL, hm, he, hid, hok⟩
  by_cases hlt : (i : Int) < os.length
  · have hil : i < os.length := by omega
    obtain ⟨b1, b2, b3, b4⟩ := Sx.at' (Sl.ext h he) hil
    simp only [show eO.z = 2 from rfl, show eO.v os[i] = AV.ag [.i .i64 (os[i]).1, .s (os[i]).2] from rfl] at b1 b3 b4
    have hmem : os[i] ∈ os := List.getElem_mem hil
    have hcall := hI (os[i]).1 65535 H'
    have hw : (os[i]).2.length ≤ 1048576 := by have := tot_mem' (w := wO) hmem; simp only [wO] at this; omega
    have hpre : ∀ x, x ∈ os.take (i + 1) → x ∈ os.take i ∨ x = os[i] := fun x hx => by
      rw [← List.take_append_getElem hil] at hx
      exact (List.mem_append.1 hx).imp id fun h => by simpa using h
    by_cases d1 : 0 ≤ (os[i]).1 ∧ (os[i]).1 ≤ 65535
    case neg =>
      rw [decide_eq_false d1] at hcall
      simp only [bU, reduceIte, Nat.reduceEqDiff, reduceCtorEq, implies_true, forall_const, eq_self, Nat.reduceAdd, Nat.reduceLT, bne_self_eq_false, bT, eq_self, true_implies, false_implies, forall_const, if_true, if_false, Int.reduceToNat, Nat.reduceSub, Int.reduceLE, bV, Nat.reduceAdd, Nat.reduceLT, Nat.reduceLeDiff, Nat.reduceLeDiff, q0, q1, q2, q3, q8, q10, q11, h1, h2, hlt, hL, b1, b2, b3, b4, toNat_nat, hcall, endK, rsC, rsV, resV]
      exact ⟨he, .inr ⟨fun hk => d1 ⟨(hk.2.2.2.1 _ hmem).1, (hk.2.2.2.1 _ hmem).2.1⟩, rfl⟩⟩
    rw [decide_eq_true d1] at hcall
    by_cases d2 : (65535 : Int) < (os[i]).2.length
    · simp only [bU, reduceIte, Nat.reduceEqDiff, reduceCtorEq, implies_true, forall_const, eq_self, Nat.reduceAdd, Nat.reduceLT, bne_self_eq_false, bT, eq_self, true_implies, false_implies, forall_const, if_true, if_false, Int.reduceToNat, Nat.reduceSub, Int.reduceLE, bV, Nat.reduceAdd, Nat.reduceLT, Nat.reduceLeDiff, Nat.reduceLeDiff, q0, q1, q2, q3, q8, q10, q11, h1, h2, hlt, hL, b1, b2, b3, b4, toNat_nat, hcall, d2, endK, rsC, rsV, resV]
      exact ⟨he, .inr ⟨fun hk => by have := (hk.2.2.2.1 _ hmem).2.2; omega, rfl⟩⟩
    obtain ⟨H1, p1, p2⟩ := hP (os[i]).1.toNat H' (by omega)
    obtain ⟨H2, p3, p4⟩ := hP (os[i]).2.length H1 (by omega)
    rw [Int.toNat_of_nonneg d1.1] at p1
    have he2 := he.trans (p2.trans p4)
    have hm2 := hm.ext (p2.trans p4)
    have hok2 : ∀ x, x ∈ os.take (i + 1) → optOk x := fun x hx => (hpre x hx).elim (hok x) fun e => e ▸ ⟨d1.1, d1.2, by omega⟩
    simp only [bU, reduceIte, Nat.reduceEqDiff, reduceCtorEq, implies_true, forall_const, eq_self, Nat.reduceAdd, Nat.reduceLT, bne_self_eq_false, bT, eq_self, true_implies, false_implies, forall_const, if_true, if_false, Int.reduceToNat, Nat.reduceSub, Int.reduceLE, bV, Nat.reduceAdd, Nat.reduceLT, Nat.reduceLeDiff, Nat.reduceLeDiff, q0, q1, q2, q3, q8, q10, q11, h1, h2, hlt, hL, b1, b2, b3, b4, toNat_nat, hcall, d2, p1, p3,]
    have hpl : (datO (os.take i)).length ≤ (datO os).length := datO_pre i
    have hdl := datO_len os
    have hw2 : (be16 (os[i]).1.toNat ++ be16 (os[i]).2.length ++ (os[i]).2) = wire os[i] := rfl
    have hwl : (wire os[i]).length ≤ 1048580 := by simp [wire, be16]; omega
    rw [hw2]
    generalize hsw : wire os[i] = sw at hwl hw2 ⊢
    refine ⟨by simp [be16], by simp [be16]; omega, ?_⟩
    refine exec_loop (fun n e M => ∃ (j : Nat) (o : AV) (H' : AH) (L : List Lv) (g : Nat), j ≤ sw.length ∧ n = sw.length - j ∧ look e 0 = .i .i64 size ∧ look e 1 = .i .i64 code ∧ look e 2 = .i .i64 flags ∧ look e 3 = a ∧ look e 8 = .la 8 0 0 0 ∧ look e 10 = o ∧ look e 11 = .i .i64 i ∧ look e 13 = .s sw ∧ look e 14 = .i .i64 j ∧
      M = ⟨L, g, H'⟩ ∧ keepL [0, 1, 2, 3, 8, 10, 11, 13, 14] L = [⟨8, 0, 0, [.ag [.s [], .i .i64 0, .i .i64 0, .i .i64 0, .s []]]⟩] ∧ Mb H' o (datO (os.take i) ++ sw.take j) ∧ Ext H H' ∧ (∀ j, j ∈ idA o → H.n ≤ j)) ?_ (n := sw.length)
      ⟨0, o, _, _, _, by omega, by omega, rfl, rfl, rfl, rfl, rfl, rfl, rfl, rfl, rfl, rfl, rfl, by simpa using hm2, he2, hid⟩
    clear hm2 he2 hid he hm p1 p3 p2 p4 hcall b1 b2 b3 b4 q0 q1 q2 q3 q8 q10 q11 hL
    rintro n e M ⟨j, o, H', L, g, hj, rfl, q0, q1, q2, q3, q8, q10, q11, q13, q14, rfl, hL, hm, he, hid⟩
    by_cases hjl : (j : Int) < sw.length
    · have hjn : j < sw.length := by omega
      obtain ⟨p1, o', H2, p2, p3, p4, p5, p6, p7, -⟩ := Mn.ap (by' := 1) hm (lit_src (t := 72) (g := g) (x := .i .u8 (sw.getD j 0).toNat) (L := [⟨8, 0, 0, [.ag [.s [], .i .i64 0, .i .i64 0, .i .i64 0, .s []]]⟩]) (H := H')) (by simp; omega)
      have e1 : (0 : Int) ≤ j := by omega
      simp only [bU, reduceIte, Nat.reduceEqDiff, reduceCtorEq, implies_true, forall_const, eq_self, Nat.reduceAdd, Nat.reduceLT, bne_self_eq_false, bT, eq_self, true_implies, false_implies, forall_const, if_true, if_false, Int.reduceToNat, Nat.reduceSub, Int.reduceLE, bV, Nat.reduceAdd, Nat.reduceLT, Nat.reduceLeDiff, Nat.reduceLeDiff, q0, q1, q2, q3, q8, q10, q11, q13, q14, hjl, hL, toNat_nat, fillEC, fillE, List.replicate, List.set, e1]
      simp only [p1, p2, p3, bU, reduceIte, Nat.reduceEqDiff, reduceCtorEq, implies_true, forall_const, eq_self, Nat.reduceAdd, Nat.reduceLT, bne_self_eq_false]
      refine ⟨sw.length - (j + 1), by omega, j + 1, o', H2, _, _, by omega, rfl, rfl, by rw [w64 (by omega) (by omega)]; rfl, rfl, rfl, ?_, he.put hid p5 p6, ?_⟩
      · have e2 : sw.take (j + 1) = sw.take j ++ [sw.getD j 0] := by
          rw [← List.take_append_getElem hjn]; simp [List.getD, hjn]
        unfold Mb
        rw [e2, ← List.append_assoc, enc_app]
        exact p4
      · intro k hk
        rcases p7 k hk with h | h
        · exact hid k h
        · have := he.n; omega
    · have hjn : j = sw.length := by omega
      subst hjn
      simp only [bU, reduceIte, Nat.reduceEqDiff, reduceCtorEq, implies_true, forall_const, eq_self, Nat.reduceAdd, Nat.reduceLT, bne_self_eq_false, bT, eq_self, true_implies, false_implies, forall_const, if_true, if_false, Int.reduceToNat, Nat.reduceSub, Int.reduceLE, bV, Nat.reduceAdd, Nat.reduceLT, Nat.reduceLeDiff, Nat.reduceLeDiff, q0, q1, q2, q3, q8, q10, q11, q13, q14, hjl, hL, toNat_nat]
      rw [List.take_length] at hm
      refine ⟨os.length - (i + 1), by omega, i + 1, o, H', _, _, by omega, rfl, rfl, by rw [w64 (by omega) (by omega)]; rfl, rfl, rfl, ?_, he, hid, hok2⟩
      rw [← List.take_append_getElem hil, datO_snoc, hsw]
      exact hm
  · have hil : i = os.length := by omega
    subst hil
    rw [List.take_length] at hm hok
    obtain ⟨k1, k2⟩ := Byt.len hm.sl
    obtain ⟨k3, k4⟩ := Byt.cbs hm.sl
    have v1 : (2 : Int) ^ (min 24 IntKind.i64.bits) = 16777216 := by decide
    have v2 : IntKind.i64.wrap (code * 16777216) = code * 16777216 := w64 (by omega) (by omega)
    have v3 : IntKind.i64.wrap (code * 16777216 + flags) = code * 16777216 + flags := w64 (by omega) (by omega)
    by_cases c4 : (65535 : Int) < (datO os).length
    · simp only [bU, reduceIte, Nat.reduceEqDiff, reduceCtorEq, implies_true, forall_const, eq_self, Nat.reduceAdd, Nat.reduceLT, bne_self_eq_false, bT, eq_self, true_implies, false_implies, forall_const, if_true, if_false, Int.reduceToNat, Nat.reduceSub, Int.reduceLE, bV, Nat.reduceAdd, Nat.reduceLT, Nat.reduceLeDiff, Nat.reduceLeDiff, q0, q1, q2, q3, q8, q10, q11, h1, h2, hlt, hL, k1, k2, c4, endK, rsC, rsV, resV]
      exact ⟨he, .inr ⟨fun hk => by have := hk.2.2.2.2; omega, rfl⟩⟩
    · simp only [bU, reduceIte, Nat.reduceEqDiff, reduceCtorEq, implies_true, forall_const, eq_self, Nat.reduceAdd, Nat.reduceLT, bne_self_eq_false, bT, eq_self, true_implies, false_implies, forall_const, if_true, if_false, Int.reduceToNat, Nat.reduceSub, Int.reduceLE, bV, Nat.reduceAdd, Nat.reduceLT, Nat.reduceLeDiff, Nat.reduceLeDiff, q0, q1, q2, q3, q8, q10, q11, h1, h2, hlt, hL, k1, k2, k3, k4, c4, v1, v2, v3, endK, rsC, rsV, resV]
      exact ⟨he, .inl ⟨⟨c1, c2, c3, hok, by omega⟩, rfl⟩⟩
end
end Go.Vm

/- EdnsRecord: the program's run, and the law's. -/
namespace Go.Vm
set_option linter.unusedVariables false
set_option linter.unusedSimpArgs false
theorem or_hi {x y : Nat} {k : Nat} (hy : y < 2 ^ k) (h : x * 2 ^ k + y < 9223372036854775808) : bitw .or .i64 ((x * 2 ^ k : Nat) : Int) (y : Int) = ((x * 2 ^ k + y : Nat) : Int) := by
  have e2 : x * 2 ^ k ||| y = x * 2 ^ k + y := by
    have := Nat.two_pow_add_eq_or_of_lt (i := k) (b := y) hy x
    rw [Nat.mul_comm]; exact this.symm
  unfold bitw
  simp only
  rw [show IntKind.i64.bits = 64 from rfl, BitVec.ofInt_natCast, BitVec.ofInt_natCast, BitVec.toNat_or, BitVec.toNat_ofNat, BitVec.toNat_ofNat, Nat.mod_eq_of_lt (by omega), Nat.mod_eq_of_lt (by omega), e2, w64 (by omega) (by omega)]
section
variable {C : Tab}
theorem r_impl_EdnsRecord {a : AV} {os : List Opt} {size code flags : Int} {H : AH} (hI : T_within C n_impl_within) (hP : T_p16 C n_impl_p16) (h : Sx H eO a os) (hn : os.length + tot' wO os ≤ 1048576) :
    Runs C c_impl_EdnsRecord [.i .i64 size, .i .i64 code, .i .i64 flags, a] H (EdPost size code flags os H) := by
  unfold Runs c_impl_EdnsRecord
  have i1 := hI size 0 65535 H
  have i2 := hI flags 0 65535 H
  have i3 := hI code 0 255 H
  obtain ⟨h1, h2⟩ := h.len
  by_cases c1 : 0 ≤ size ∧ size ≤ 65535
  case neg =>
    rw [decide_eq_false c1] at i1
    simp only [bU, reduceIte, Nat.reduceEqDiff, reduceCtorEq, implies_true, forall_const, eq_self, Nat.reduceAdd, Nat.reduceLT, bne_self_eq_false, bT, eq_self, true_implies, false_implies, forall_const, if_true, if_false, Int.reduceToNat, Nat.reduceSub, Int.reduceLE, bV, Nat.reduceAdd, Nat.reduceLT, Nat.reduceLeDiff, Nat.reduceLeDiff, i1, endK, rsC, rsV, resV]
    exact ⟨.refl _, .inr ⟨fun hk => c1 hk.1, rfl⟩⟩
  rw [decide_eq_true c1] at i1
  by_cases c2 : 0 ≤ flags ∧ flags ≤ 65535
  case neg =>
    rw [decide_eq_false c2] at i2
    simp only [bU, reduceIte, Nat.reduceEqDiff, reduceCtorEq, implies_true, forall_const, eq_self, Nat.reduceAdd, Nat.reduceLT, bne_self_eq_false, bT, eq_self, true_implies, false_implies, forall_const, if_true, if_false, Int.reduceToNat, Nat.reduceSub, Int.reduceLE, bV, Nat.reduceAdd, Nat.reduceLT, Nat.reduceLeDiff, Nat.reduceLeDiff, i1, i2, endK, rsC, rsV, resV]
    exact ⟨.refl _, .inr ⟨fun hk => c2 hk.2.1, rfl⟩⟩
  rw [decide_eq_true c2] at i2
  by_cases c3 : 0 ≤ code ∧ code ≤ 255
  case neg =>
    rw [decide_eq_false c3] at i3
    simp only [bU, reduceIte, Nat.reduceEqDiff, reduceCtorEq, implies_true, forall_const, eq_self, Nat.reduceAdd, Nat.reduceLT, bne_self_eq_false, bT, eq_self, true_implies, false_implies, forall_const, if_true, if_false, Int.reduceToNat, Nat.reduceSub, Int.reduceLE, bV, Nat.reduceAdd, Nat.reduceLT, Nat.reduceLeDiff, Nat.reduceLeDiff, i1, i2, i3, endK, rsC, rsV, resV]
    exact ⟨.refl _, .inr ⟨fun hk => c3 hk.2.2.1, rfl⟩⟩
  rw [decide_eq_true c3] at i3
  simp only [bU, reduceIte, Nat.reduceEqDiff, reduceCtorEq, implies_true, forall_const, eq_self, Nat.reduceAdd, Nat.reduceLT, bne_self_eq_false, bT, eq_self, true_implies, false_implies, forall_const, if_true, if_false, Int.reduceToNat, Nat.reduceSub, Int.reduceLE, bV, Nat.reduceAdd, Nat.reduceLT, Nat.reduceLeDiff, Nat.reduceLeDiff, i1, i2, i3, h1, h2]
  refine exec_loop (fun n e M => ∃ (i : Nat) (H' : AH) (L : List Lv) (g : Nat), i ≤ os.length ∧ n = os.length - i ∧ look e 0 = .i .i64 size ∧ look e 1 = .i .i64 code ∧ look e 2 = .i .i64 flags ∧ look e 27 = a ∧ look e 28 = .i .i64 os.length ∧ look e 8 = .la 8 0 0 0 ∧ look e 10 = .s (datO (os.take i)) ∧ look e 29 = .i .i64 i ∧
    M = ⟨L, g, H'⟩ ∧ keepL [0, 1, 2, 8, 10, 27, 28, 29] L = [⟨8, 0, 0, [.ag [.s [], .i .i64 0, .i .i64 0, .i .i64 0, .s []]]⟩] ∧ Ext H H' ∧ (datO (os.take i)).length ≤ 65535 ∧ ∀ x, x ∈ os.take i → optOk x) ?_ (n := os.length)
    ⟨0, _, _, _, by omega, by omega, rfl, rfl, rfl, rfl, rfl, rfl, rfl, rfl, rfl, rfl, .refl _, by simp [datO], by simp⟩
  rintro n e M ⟨i, H', L, g, hi, rfl, q0, q1, q2, q27, q28, q8, q10, q29, rfl, hL, he, hdl, hok⟩
  by_cases hlt : (i : Int) < os.length
  · have hil : i < os.length := by omega
    obtain ⟨b1, b2, b3, b4⟩ := Sx.at' (Sl.ext h he) hil
    simp only [show eO.z = 2 from rfl, show eO.v os[i] = AV.ag [.i .i64 (os[i]).1, .s (os[i]).2] from rfl] at b1 b3 b4
    have hmem : os[i] ∈ os := List.getElem_mem hil
    have hcall := hI (os[i]).1 0 65535 H'
    have hw : (os[i]).2.length ≤ 1048576 := by have := tot_mem' (w := wO) hmem; simp only [wO] at this; omega
    have hpre : ∀ x, x ∈ os.take (i + 1) → x ∈ os.take i ∨ x = os[i] := fun x hx => by
      rw [← List.take_append_getElem hil] at hx
      exact (List.mem_append.1 hx).imp id fun h => by simpa using h
    by_cases d1 : 0 ≤ (os[i]).1 ∧ (os[i]).1 ≤ 65535
    case neg =>
      rw [decide_eq_false d1] at hcall
      simp only [bU, reduceIte, Nat.reduceEqDiff, reduceCtorEq, implies_true, forall_const, eq_self, Nat.reduceAdd, Nat.reduceLT, bne_self_eq_false, bT, eq_self, true_implies, false_implies, forall_const, if_true, if_false, Int.reduceToNat, Nat.reduceSub, Int.reduceLE, bV, Nat.reduceAdd, Nat.reduceLT, Nat.reduceLeDiff, Nat.reduceLeDiff, q0, q1, q2, q27, q28, q8, q10, q29, h1, h2, hlt, hL, b1, b2, b3, b4, toNat_nat, hcall, endK, rsC, rsV, resV]
      exact ⟨he, .inr ⟨fun hk => d1 ⟨(hk.2.2.2.1 _ hmem).1, (hk.2.2.2.1 _ hmem).2.1⟩, rfl⟩⟩
    rw [decide_eq_true d1] at hcall
    by_cases d2 : (65535 : Int) < (os[i]).2.length
    · simp only [bU, reduceIte, Nat.reduceEqDiff, reduceCtorEq, implies_true, forall_const, eq_self, Nat.reduceAdd, Nat.reduceLT, bne_self_eq_false, bT, eq_self, true_implies, false_implies, forall_const, if_true, if_false, Int.reduceToNat, Nat.reduceSub, Int.reduceLE, bV, Nat.reduceAdd, Nat.reduceLT, Nat.reduceLeDiff, Nat.reduceLeDiff, q0, q1, q2, q27, q28, q8, q10, q29, h1, h2, hlt, hL, b1, b2, b3, b4, toNat_nat, hcall, d2, endK, rsC, rsV, resV]
      exact ⟨he, .inr ⟨fun hk => by have := (hk.2.2.2.1 _ hmem).2.2; omega, rfl⟩⟩
    obtain ⟨H1, p1, p2⟩ := hP (os[i]).1.toNat H' (by omega)
    obtain ⟨H2, p3, p4⟩ := hP (os[i]).2.length H1 (by omega)
    rw [Int.toNat_of_nonneg d1.1] at p1
    have he2 := he.trans (p2.trans p4)
    have hok2 : ∀ x, x ∈ os.take (i + 1) → optOk x := fun x hx => (hpre x hx).elim (hok x) fun e => e ▸ ⟨d1.1, d1.2, by omega⟩
    have hsn : datO (os.take i) ++ (be16 (os[i]).1.toNat ++ be16 (os[i]).2.length ++ (os[i]).2) = datO (os.take (i + 1)) := by
      rw [← List.take_append_getElem hil, datO_snoc]; rfl
    have hwl : (datO (os.take (i + 1))).length ≤ 3000000 := by rw [← hsn]; simp [be16]; omega
    have hw1 : IntKind.i64.wrap ((i : Int) + 1) = ((i + 1 : Nat) : Int) := by rw [w64 (by omega) (by omega)]; rfl
    have hb : (be16 (os[i]).1.toNat).length + (be16 (os[i]).2.length).length ≤ 9223372036854775807 := by simp [be16]
    have hb2 : (be16 (os[i]).1.toNat ++ be16 (os[i]).2.length).length + (os[i]).2.length ≤ 9223372036854775807 := by simp [be16]; omega
    have hb3 : (datO (os.take i)).length + (be16 (os[i]).1.toNat ++ be16 (os[i]).2.length ++ (os[i]).2).length ≤ 9223372036854775807 := by simp [be16]; omega
    by_cases c4 : (65535 : Int) < (datO (os.take (i + 1))).length
    · simp only [bU, reduceIte, Nat.reduceEqDiff, reduceCtorEq, implies_true, forall_const, eq_self, Nat.reduceAdd, Nat.reduceLT, bne_self_eq_false, bT, eq_self, true_implies, false_implies, forall_const, if_true, if_false, Int.reduceToNat, Nat.reduceSub, Int.reduceLE, bV, Nat.reduceAdd, Nat.reduceLT, Nat.reduceLeDiff, Nat.reduceLeDiff, q0, q1, q2, q27, q28, q8, q10, q29, h1, h2, hlt, hL, b1, b2, b3, b4, toNat_nat, hcall, d2, p1, p3, hb, hb2, hb3, hsn, c4, endK, rsC, rsV, resV]
      exact ⟨he2, .inr ⟨fun hk => by have := hk.2.2.2.2; have := datO_pre (os := os) (i + 1); omega, rfl⟩⟩
    · simp only [bU, reduceIte, Nat.reduceEqDiff, reduceCtorEq, implies_true, forall_const, eq_self, Nat.reduceAdd, Nat.reduceLT, bne_self_eq_false, bT, eq_self, true_implies, false_implies, forall_const, if_true, if_false, Int.reduceToNat, Nat.reduceSub, Int.reduceLE, bV, Nat.reduceAdd, Nat.reduceLT, Nat.reduceLeDiff, Nat.reduceLeDiff, q0, q1, q2, q27, q28, q8, q10, q29, h1, h2, hlt, hL, b1, b2, b3, b4, toNat_nat, hcall, d2, p1, p3, hb, hb2, hb3, hsn, c4, hw1]
      refine ⟨os.length - (i + 1), by omega, i + 1, H2, _, _, by omega, rfl, rfl, rfl, rfl, rfl, he2, by omega, hok2⟩
  · have hil : i = os.length := by omega
    subst hil
    rw [List.take_length] at q10 hok hdl
    have v1 : (2 : Int) ^ (min 24 IntKind.i64.bits) = 16777216 := by decide
    have v2 : IntKind.i64.wrap (code * 16777216) = code * 16777216 := w64 (by omega) (by omega)
    have v3 : bitw .or .i64 (code * 16777216) flags = code * 16777216 + flags := by
      have := or_hi (x := code.toNat) (y := flags.toNat) (k := 24) (by omega) (by omega)
      rw [show ((code.toNat * 2 ^ 24 : Nat) : Int) = code * 16777216 by omega, show ((flags.toNat : Nat) : Int) = flags by omega] at this
      rw [this]; omega
    simp only [bU, reduceIte, Nat.reduceEqDiff, reduceCtorEq, implies_true, forall_const, eq_self, Nat.reduceAdd, Nat.reduceLT, bne_self_eq_false, bT, eq_self, true_implies, false_implies, forall_const, if_true, if_false, Int.reduceToNat, Nat.reduceSub, Int.reduceLE, bV, Nat.reduceAdd, Nat.reduceLT, Nat.reduceLeDiff, Nat.reduceLeDiff, q0, q1, q2, q27, q28, q8, q10, q29, h1, h2, hlt, hL, v1, v2, v3, endK, rsC, rsV, resV]
    exact ⟨he, .inl ⟨⟨c1, c2, c3, hok, by omega⟩, rfl⟩⟩
def T_edns (C : Tab) (f : Nat) : Prop := ∀ (a : AV) (os : List Opt) (size code flags : Int) (H : AH), Sx H eO a os → os.length + tot' wO os ≤ 1048576 → ∃ v H', C f [.i .i64 size, .i .i64 code, .i .i64 flags, a] H = some (v, H') ∧ EdPost size code flags os H v H'
def T_toS {α : Type} (C : Tab) (f : Nat) (E : Enc α) : Prop := ∀ (a : AV) (xs : List α) (H : AH), Sx H E a xs → xs.length ≤ 137438953472 → ∃ v H', C f [a] H = some (v, H') ∧ Ext H H' ∧ Mx H' E v xs ∧ ∀ i, i ∈ idA v → H.n ≤ i
def T_eqS {α : Type} (C : Tab) (f : Nat) (E : Enc α) : Prop := ∀ (a b : AV) (xs : List α) (H : AH), Sx H E a xs → Sx H E b xs → xs.length ≤ 1099511627776 → C f [a, b] H = some (.b true, H)
def T_szS {α : Type} (C : Tab) (f : Nat) (E : Enc α) (w : α → Nat) (pre : α → Prop) : Prop := ∀ (a : AV) (xs : List α) (left : Int) (H : AH), Sx H E a xs → 0 ≤ left → left ≤ 1099511627776 → xs.length ≤ 9223372036854775807 → (∀ o, o ∈ xs → pre o) → C f [a, .i .i64 left] H = some (.i .i64 (if left - xs.length - tot' w xs < 0 then -1 else left - xs.length - tot' w xs), H)
end
end Go.Vm
