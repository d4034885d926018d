import Derived.Test.YtfamnghjibckbaaDoorTt3
import Derived.Test.YtfamnghjibckbaaDoorTt4
import Derived.Below
import Derived.ChangeSame
import Derived.ChangeArms
import Derived.WideKeyArgs
import Derived.LaidMore
import Derived.OpenShut
import Derived.Stop.Joined
import Derived.Maps.Range
import Derived.Test.YtfamnghjibckbaaDoorProg
import Derived.KernelRfl
/- Data of records: the specification's parts and its check. -/
namespace Go.Vm
set_option linter.unusedVariables false
set_option linter.unusedSimpArgs false
section
variable {C : Tab}
theorem r_parts {form d : List UInt8} {H : AH} (hN : T_nmS C n_spec_l02NameAt) (hT : T_txt C n_spec_l02Text) (hA : T_alnum C n_spec_l02Alnum) (hM : T_map C n_spec_l02Map) (hf : form.length ≤ 1000) (hd : d.length ≤ 1099511627776) :
    Runs C c_spec_l02Parts [.s form, .s d] H (PartsPost (prs form d) H) := by
  unfold Runs
  obtain ⟨B, hB, hs⟩ := cut_at c_spec_l02Parts [1, 1, 0, 1, 2, 2, 1, 0, 2, 1, 0, 1]
  rw [hs]
  simp only [c_spec_l02Parts, sPut]
  have hB' : B = partsBlk := hB
  simp -implicitDefEqProofs only [bU, reduceIte, Nat.reduceEqDiff, reduceCtorEq, implies_true, forall_const, eq_self, Nat.reduceAdd, Nat.reduceLT, bne_self_eq_false, bT, eq_self, true_implies, false_implies, forall_const, if_true, if_false, Int.reduceToNat, Nat.reduceSub, Int.reduceLE, fillEC, fillE, List.replicate]
  refine exec_loop (fun n e M => ∃ (i : Nat) (d' : List UInt8) (acc : List (UInt8 × List UInt8)) (o : AV) (H' : AH) (L : List Lv) (g : Nat), i ≤ form.length ∧ n = form.length - i ∧ d'.length ≤ d.length ∧ look e 0 = .s form ∧ look e 1 = .s d' ∧ look e 6 = o ∧ look e 7 = .i .i64 i ∧ M = ⟨L, g, H'⟩ ∧ acc.length = i ∧ Mn H' 1 o (acc.map fun p => AV.s p.2) ∧ Ext H H' ∧ (∀ j, j ∈ idA o → H.n ≤ j) ∧ prs form d = (prs (form.drop i) d').map fun q => acc ++ q) ?_ (n := form.length)
    ⟨0, d, [], .sl H.n 0 0, H.new (.arr true 0 1 []), _, _, by omega, by omega, by omega, rfl, rfl, rfl, rfl, rfl, rfl, Mn.own (xs := []) (by simp) new_at, .new _ _, by simp [idA], by simp⟩
  rintro n e M ⟨i, d', acc, o, H', L, g, hi, rfl, hdl, q0, q1, q6, q7, rfl, hacc, hm, he, hid, hg⟩
  have ho := hm.sl.out
  have z1 : (0 : Int) ≤ i := by omega
  by_cases hlt : (i : Int) < form.length
  · have hil : i < form.length := by omega
    obtain ⟨f, hff⟩ : ∃ f, form.getD i 0 = f := ⟨_, rfl⟩
    have hdr : form.drop i = f :: form.drop (i + 1) := by rw [List.drop_eq_getElem_cons hil, ← hff]; simp [List.getD, hil]
    rw [hdr, prs] at hg
    simp -implicitDefEqProofs only [bU, reduceIte, Nat.reduceEqDiff, reduceCtorEq, implies_true, forall_const, eq_self, Nat.reduceAdd, Nat.reduceLT, bne_self_eq_false, bT, eq_self, true_implies, false_implies, forall_const, if_true, if_false, Int.reduceToNat, Nat.reduceSub, Int.reduceLE, q0, q1, q6, q7, z1, hlt, toNat_nat, hff]
    rw [hB']
    refine blk (d := d') (f := f) hN hT hA hM rfl rfl rfl (by omega) (fun e' L' g' p hk k1 k8 hp => ?_) (fun e' L' g' k4 k5 hp => ?_)
    · have k0 := hk 0 (.inl rfl)
      have k6 := hk 6 (.inr (.inl rfl))
      have k7 := hk 7 (.inr (.inr rfl))
      simp only [bU, reduceIte, Nat.reduceEqDiff, reduceCtorEq, implies_true, forall_const, eq_self, Nat.reduceAdd, Nat.reduceLT, bne_self_eq_false] at k0 k6 k7
      rcases hp with hp | ⟨rfl, hp, hn9, hn2⟩
      · rw [hp] at hg
        have hpl := part_len hp
        simp only at hg
        have w9 : IntKind.i64.wrap ((i : Int) + 1) = ((i + 1 : Nat) : Int) := by rw [w64 (by omega) (by omega)]; rfl
        have y1 : (0 : Int) ≤ p.length := by omega
        have y2 : (p.length : Int) ≤ d'.length := by omega
        have y3 : (d'.drop p.length).take (d'.length - p.length) = d'.drop p.length := List.take_of_length_le (by simp)
        have hz : p = [] → f ≠ 109 → f ≠ 42 → False := fun h0 h9 h2 => by
          subst h0
          rw [part_of] at hp
          by_cases c1 : f = 110
          · rw [if_pos c1] at hp
            by_cases c2 : nmAt d' = 0
            · rw [if_pos c2] at hp; cases hp
            · rw [if_neg c2] at hp
              injection hp with hp
              have hh := congrArg List.length hp
              have := nmAt_le d'
              rw [List.length_take, List.length_nil] at hh
              omega
          rw [if_neg c1] at hp
          by_cases c2 : f = 98
          · rw [if_pos c2] at hp
            cases d' <;> simp at hp
          rw [if_neg c2] at hp
          by_cases c3 : f = 116
          · rw [if_pos c3] at hp
            by_cases c4 : txt d' = []
            · rw [if_pos c4] at hp; cases hp
            · rw [if_neg c4] at hp
              injection hp with hp
              exact c4 hp
          rw [if_neg c3] at hp
          by_cases c5 : f = 115
          · rw [if_pos c5] at hp
            by_cases c4 : txts d' = []
            · rw [if_pos c4] at hp; cases hp
            · rw [if_neg c4] at hp
              injection hp with hp
              exact c4 hp
          rw [if_neg c5] at hp
          by_cases c6 : f = 99
          · rw [if_pos c6] at hp
            split at hp
            · rename_i hh
              injection hp with hp
              rw [hp] at hh
              simp [txt] at hh
            · cases hp
          rw [if_neg c6, if_neg h9, if_neg h2] at hp
          cases hp
        obtain ⟨p1, o', H2, p2, p3, p4, p5, p6, p7, -⟩ := Mn.ap (by' := 16) hm (lit_srcS (t := 98) (g := g') (x := p) (L := dropL L' 98) (H := H')) (by simp; omega)
        have hfin : (acc ++ [(f, p)]).length = i + 1 ∧ Mn H2 1 o' ((acc ++ [(f, p)]).map fun p => AV.s p.2) ∧ Ext H H2 ∧ (∀ j, j ∈ idA o' → H.n ≤ j) ∧ prs form d = (prs (form.drop (i + 1)) (d'.drop p.length)).map fun q => (acc ++ [(f, p)]) ++ q := by
          refine ⟨by simp [hacc], by rw [List.map_append]; exact p4, he.put hid p5 p6, fun j hj => ?_, ?_⟩
          · rcases p7 j hj with h | h
            · exact hid j h
            · have := he.n; omega
          · rw [hg, Option.map_map]
            cases prs (form.drop (i + 1)) (d'.drop p.length) <;> simp
        by_cases hp0 : p = []
        · subst hp0
          have hp0' : (([] : List UInt8) = []) = True := eq_self _
          have y4 : ((0 : Nat) : Int) ≤ ((0 : Nat) : Int) := Int.le_refl _
          have y5 : (0 : Int) ≤ ((0 : Nat) : Int) := Int.le_refl _
          have y6 : ((0 : Nat) : Int) ≤ (d'.length : Int) := by omega
          have y7 : d'.take d'.length = d' := List.take_length
          by_cases h9 : f = 109
          · subst h9
            have c0 : ((109 : UInt8).toNat : Int) = 109 := rfl
            simp -implicitDefEqProofs only [bU, reduceIte, Nat.reduceEqDiff, reduceCtorEq, implies_true, forall_const, eq_self, Nat.reduceAdd, Nat.reduceLT, bne_self_eq_false, bT, eq_self, true_implies, false_implies, forall_const, if_true, if_false, Int.reduceToNat, Nat.reduceSub, Int.reduceLE, k0, k1, k6, k7, k8, hp0', z1, hlt, toNat_nat, hff, c0, w9, y1, y2, y3, Int.le_refl, fillEC, fillE, List.replicate, List.set]
            simp -implicitDefEqProofs only [bU, reduceIte, Nat.reduceEqDiff, reduceCtorEq, implies_true, forall_const, eq_self, Nat.reduceAdd, Nat.reduceLT, bne_self_eq_false, bT, eq_self, true_implies, false_implies, forall_const, if_true, if_false, Int.reduceToNat, Nat.reduceSub, Int.reduceLE, k0, k1, k6, k7, k8, p1, p2, p3, w9, y5, y6, y7, Int.le_refl, toNat_nat]
            exact ⟨form.length - (i + 1), by omega, i + 1, d', _, o', H2, _, _, by omega, rfl, hdl, rfl, rfl, rfl, rfl, hfin⟩
          · have g9 := u8n (n := 109) h9 (by omega)
            have h2 : f = 42 := Classical.byContradiction fun h2 => hz rfl h9 h2
            subst h2
            have c0 : ((42 : UInt8).toNat : Int) = 42 := rfl
            simp -implicitDefEqProofs only [bU, reduceIte, Nat.reduceEqDiff, reduceCtorEq, implies_true, forall_const, eq_self, Nat.reduceAdd, Nat.reduceLT, bne_self_eq_false, bT, eq_self, true_implies, false_implies, forall_const, if_true, if_false, Int.reduceToNat, Nat.reduceSub, Int.reduceLE, k0, k1, k6, k7, k8, hp0', z1, hlt, toNat_nat, hff, c0, Int.reduceEq, w9, y1, y2, y3, Int.le_refl, fillEC, fillE, List.replicate, List.set]
            simp -implicitDefEqProofs only [bU, reduceIte, Nat.reduceEqDiff, reduceCtorEq, implies_true, forall_const, eq_self, Nat.reduceAdd, Nat.reduceLT, bne_self_eq_false, bT, eq_self, true_implies, false_implies, forall_const, if_true, if_false, Int.reduceToNat, Nat.reduceSub, Int.reduceLE, k0, k1, k6, k7, k8, p1, p2, p3, w9, y5, y6, y7, Int.le_refl, toNat_nat]
            exact ⟨form.length - (i + 1), by omega, i + 1, d', _, o', H2, _, _, by omega, rfl, hdl, rfl, rfl, rfl, rfl, hfin⟩
        · simp -implicitDefEqProofs only [bU, reduceIte, Nat.reduceEqDiff, reduceCtorEq, implies_true, forall_const, eq_self, Nat.reduceAdd, Nat.reduceLT, bne_self_eq_false, bT, eq_self, true_implies, false_implies, forall_const, if_true, if_false, Int.reduceToNat, Nat.reduceSub, Int.reduceLE, k0, k1, k6, k7, k8, hp0, w9, fillEC, fillE, List.replicate, List.set]
          simp -implicitDefEqProofs only [bU, reduceIte, Nat.reduceEqDiff, reduceCtorEq, implies_true, forall_const, eq_self, Nat.reduceAdd, Nat.reduceLT, bne_self_eq_false, bT, eq_self, true_implies, false_implies, forall_const, if_true, if_false, Int.reduceToNat, Nat.reduceSub, Int.reduceLE, k0, k1, k6, k7, k8, p1, p2, p3, w9, y1, y2, y3, Int.le_refl, toNat_nat]
          exact ⟨form.length - (i + 1), by omega, i + 1, d'.drop p.length, _, o', H2, _, _, by omega, rfl, by simp; omega, rfl, rfl, rfl, rfl, hfin⟩
      · rw [hp] at hg
        simp only [Option.map_none] at hg
        rw [hg]
        have g9 := u8n (n := 109) hn9 (by omega)
        have g2 := u8n (n := 42) hn2 (by omega)
        simp only [show ((109 : Nat) : Int) = 109 from rfl, show ((42 : Nat) : Int) = 42 from rfl] at g9 g2
        have hp0' : (([] : List UInt8) = []) = True := eq_self _
        simp -implicitDefEqProofs only [bU, reduceIte, Nat.reduceEqDiff, reduceCtorEq, implies_true, forall_const, eq_self, Nat.reduceAdd, Nat.reduceLT, bne_self_eq_false, bT, eq_self, true_implies, false_implies, forall_const, if_true, if_false, Int.reduceToNat, Nat.reduceSub, Int.reduceLE, k0, k1, k6, k7, k8, hp0', z1, hlt, toNat_nat, hff, g9, g2, endK, rsC, rsV, resV]
        exact ⟨he, .ns, rfl, rfl⟩
    · rw [hp] at hg
      simp only [Option.map_none] at hg
      rw [hg]
      simp -implicitDefEqProofs only [bU, reduceIte, Nat.reduceEqDiff, reduceCtorEq, implies_true, forall_const, eq_self, Nat.reduceAdd, Nat.reduceLT, bne_self_eq_false, bT, eq_self, true_implies, false_implies, forall_const, if_true, if_false, Int.reduceToNat, Nat.reduceSub, Int.reduceLE, k4, k5, endK, rsC, rsV, resV]
      exact ⟨he, .ns, rfl, rfl⟩
  · have hil : i = form.length := by omega
    rw [hil, List.drop_length, prs] at hg
    by_cases h0 : d' = []
    · rw [if_pos h0, Option.map_some, List.append_nil] at hg
      rw [hg]
      have h0' : (d' = []) = True := eq_true h0
      simp -implicitDefEqProofs only [bU, reduceIte, Nat.reduceEqDiff, reduceCtorEq, implies_true, forall_const, eq_self, Nat.reduceAdd, Nat.reduceLT, bne_self_eq_false, bT, eq_self, true_implies, false_implies, forall_const, if_true, if_false, Int.reduceToNat, Nat.reduceSub, Int.reduceLE, q0, q1, q6, q7, hlt, ho, h0', endK, rsC, rsV, resV]
      exact ⟨he, o, rfl, hm, hid⟩
    · rw [if_neg h0, Option.map_none] at hg
      rw [hg]
      simp -implicitDefEqProofs only [bU, reduceIte, Nat.reduceEqDiff, reduceCtorEq, implies_true, forall_const, eq_self, Nat.reduceAdd, Nat.reduceLT, bne_self_eq_false, bT, eq_self, true_implies, false_implies, forall_const, if_true, if_false, Int.reduceToNat, Nat.reduceSub, Int.reduceLE, q0, q1, q6, q7, hlt, ho, h0, endK, rsC, rsV, resV]
      exact ⟨he, o, rfl, ho⟩
theorem specForm_len (t : Int) : (specForm t).length ≤ 1000 := by
  unfold specForm
  repeat' split
  all_goals decide
theorem r_CheckS {t : Int} {d : List UInt8} {H : AH} (hF : T_form C n_spec_l02Form) (hP : T_parts C n_spec_l02Parts) (hd : d.length ≤ 1099511627776) : Runs C c_spec_CheckData [.i .i64 t, .s d] H fun v H' => v = .i .i64 (chk t d) ∧ Ext H H' := by
  unfold Runs c_spec_CheckData
  by_cases h1 : t < 0
  · rw [chk, if_pos (.inl h1)]
    simp -implicitDefEqProofs only [bU, reduceIte, Nat.reduceEqDiff, reduceCtorEq, implies_true, forall_const, eq_self, Nat.reduceAdd, Nat.reduceLT, bne_self_eq_false, bT, eq_self, true_implies, false_implies, forall_const, if_true, if_false, Int.reduceToNat, Nat.reduceSub, Int.reduceLE, h1, endK, rsC, rsV, resV]
    exact .refl _
  by_cases h2 : 65535 < t
  · rw [chk, if_pos (.inr h2)]
    simp -implicitDefEqProofs only [bU, reduceIte, Nat.reduceEqDiff, reduceCtorEq, implies_true, forall_const, eq_self, Nat.reduceAdd, Nat.reduceLT, bne_self_eq_false, bT, eq_self, true_implies, false_implies, forall_const, if_true, if_false, Int.reduceToNat, Nat.reduceSub, Int.reduceLE, h1, h2, endK, rsC, rsV, resV]
    exact .refl _
  rw [chk, if_neg (by omega)]
  by_cases h3 : (65535 : Int) < d.length
  · rw [if_pos (.inl (by omega))]
    simp -implicitDefEqProofs only [bU, reduceIte, Nat.reduceEqDiff, reduceCtorEq, implies_true, forall_const, eq_self, Nat.reduceAdd, Nat.reduceLT, bne_self_eq_false, bT, eq_self, true_implies, false_implies, forall_const, if_true, if_false, Int.reduceToNat, Nat.reduceSub, Int.reduceLE, h1, h2, h3, endK, rsC, rsV, resV]
    exact .refl _
  have k1 := hF t
  obtain ⟨v, H', k2, k3, k4⟩ := hP (specForm t) d H (specForm_len t) hd
  cases hp : prs (specForm t) d with
  | none =>
    rw [if_pos (.inr rfl)]
    rw [hp] at k4
    obtain ⟨o, rfl, ho⟩ := k4
    simp -implicitDefEqProofs only [bU, reduceIte, Nat.reduceEqDiff, reduceCtorEq, implies_true, forall_const, eq_self, Nat.reduceAdd, Nat.reduceLT, bne_self_eq_false, bT, eq_self, true_implies, false_implies, forall_const, if_true, if_false, Int.reduceToNat, Nat.reduceSub, Int.reduceLE, h1, h2, h3, k1, k2, ho, endK, rsC, rsV, resV]
    exact k3
  | some ps =>
    rw [if_neg (by simp; omega)]
    rw [hp] at k4
    obtain ⟨o, rfl, hm, -⟩ := k4
    have ho := hm.sl.out
    simp -implicitDefEqProofs only [bU, reduceIte, Nat.reduceEqDiff, reduceCtorEq, implies_true, forall_const, eq_self, Nat.reduceAdd, Nat.reduceLT, bne_self_eq_false, bT, eq_self, true_implies, false_implies, forall_const, if_true, if_false, Int.reduceToNat, Nat.reduceSub, Int.reduceLE, h1, h2, h3, k1, k2, ho, endK, rsC, rsV, resV]
    exact k3
end
end Go.Vm
/- Data of records: the program's forms, its map of types. -/
namespace Go.Vm
set_option linter.unusedVariables false
set_option linter.unusedSimpArgs false
/-! Frames. -/
def subN : List Nat → List Nat → Bool
  | [], _ => true
  | t :: r, l => memN l t && subN r l
theorem subN_mem : ∀ {a b : List Nat}, subN a b = true → ∀ t, t ∈ a → memN b t = true
  | [], _, _, t, h => by cases h
  | m :: r, b, h, t, ht => by
    simp only [subN, Bool.and_eq_true] at h
    rcases List.mem_cons.1 ht with rfl | ht
    · exact h.1
    · exact subN_mem h.2 t ht
theorem keep_keep {a b : List Nat} (h : subN a b = true) : ∀ L : List Lv, keepL a (keepL b L) = keepL a L
  | [] => rfl
  | v :: r => by
    simp only [keepL]
    by_cases hb : memN b v.t = true
    · rw [if_pos hb]
      simp only [keepL, keep_keep h r]
    · rw [if_neg hb, keep_keep h r]
      have : ¬ memN a v.t = true := fun ha => hb (subN_mem h _ (memN_iff.1 ha))
      rw [if_neg this]
theorem keep_drop {a : List Nat} {t : Nat} (h : memN a t = false) : ∀ L : List Lv, keepL a (dropL L t) = keepL a L
  | [] => rfl
  | v :: r => by
    simp only [dropL]
    by_cases hb : v.t = t
    · rw [if_pos hb, keep_drop h r]
      simp only [keepL, hb, h]
      rfl
    · rw [if_neg hb]
      simp only [keepL, keep_drop h r]
theorem keep_new {a : List Nat} {t g k : Nat} {xs : List AV} (h : memN a t = false) (L : List Lv) : keepL a (⟨t, g, k, xs⟩ :: L) = keepL a L := by
  simp only [keepL, h]; rfl
theorem utf1 {l : List UInt8} {i : Nat} (hi : i < l.length) (h : (l.getD i 0).toNat < 128) : Utf8.decode ⟨l.toArray⟩ i = ((l.getD i 0).toNat, 1) := by
  have e : (ByteArray.mk l.toArray).get! (i + 0) = l.getD i 0 := by
    rw [Nat.add_zero]
    show l.toArray[i]! = _
    simp [List.getD, List.getElem?_eq_getElem hi]
  unfold Utf8.decode
  simp only [e]
  rw [if_pos h]
/-! Forms. -/
def implForm (t : Int) : Option (List UInt8) := if t = 1 then some [52] else if t = 2 ∨ t = 5 ∨ t = 12 ∨ t = 39 then some [110] else if t = 6 then some [110, 110, 103, 103, 103, 103, 113] else if t = 13 then some [116, 116] else if t = 15 then some [50, 110] else if t = 16 then some [84] else
  if t = 28 then some [103, 103, 103, 103] else if t = 33 then some [50, 50, 50, 110] else if t = 35 then some [50, 50, 116, 116, 116, 110] else if t = 47 then some [110, 109] else if t = 257 then some [49, 99, 42] else none
theorem forms_find (t : Int) : mpFind formsEs (.i .i64 t) = (implForm t).map AV.s := by
  have h : ∀ (a : Int) (s : List UInt8) (r : List (AV × AV)), mpFind ((.i .i64 a, .s s) :: r) (.i .i64 t) = if t = a then some (.s s) else mpFind r (.i .i64 t) := fun a s r => by
    simp only [mpFind, AV.cells, cellsEq, cellEq, Bool.and_true, decide_eq_true_eq]
  have h0 : mpFind [] (.i .i64 t) = none := rfl
  simp only [formsEs, formsL, List.map_cons, List.map_nil, h, h0, implForm]
  by_cases h1 : t = 1 <;> by_cases h2 : t = 2 <;> by_cases h5 : t = 5 <;> by_cases h6 : t = 6 <;> by_cases h12 : t = 12 <;> by_cases h39 : t = 39 <;> first | (exfalso; omega) | skip
  all_goals simp only [h1, h2, h5, h6, h12, h39, if_true, if_false, Int.reduceEq, or_true, or_false, true_or, false_or, Option.map_some]
  by_cases h13 : t = 13
  · simp [h13]
  by_cases h15 : t = 15
  · simp [h15]
  by_cases h16 : t = 16
  · simp [h16]
  by_cases h28 : t = 28
  · simp [h28]
  by_cases h33 : t = 33
  · simp [h33]
  by_cases h35 : t = 35
  · simp [h35]
  by_cases h47 : t = 47
  · simp [h47]
  by_cases h257 : t = 257
  · simp [h257]
  simp [h13, h15, h16, h28, h33, h35, h47, h257]
/-- How far texts reach, one behind the other. -/
def tGo (s : List UInt8) : Nat := match s with
  | [] => 0
  | c :: r => 1 + c.toNat + tGo (r.drop c.toNat)
termination_by s.length
decreasing_by simp; omega
theorem tGo_ge : ∀ (n : Nat) (s : List UInt8), s.length ≤ n → s.length ≤ tGo s
  | n, [], _ => by simp
  | 0, _ :: _, h => by simp at h
  | n + 1, c :: r, h => by
    rw [tGo]
    simp only [List.length_cons] at h ⊢
    have := tGo_ge n (r.drop c.toNat) (by simp; omega)
    simp only [List.length_drop] at this
    omega
theorem tGo_txts : ∀ (n : Nat) (s : List UInt8), s.length ≤ n → (tGo s ≤ s.length ↔ txts s = s)
  | n, [], _ => by simp [tGo, txts_nil (s := []) rfl]
  | 0, _ :: _, h => by simp at h
  | n + 1, c :: r, h => by
    rw [tGo]
    simp only [List.length_cons] at h ⊢
    by_cases hc : r.length < c.toNat
    · have e : txt (c :: r) = [] := by simp only [txt]; rw [if_pos hc]
      rw [txts_nil e]
      constructor
      · intro; omega
      · intro h; cases h
    · have e : txt (c :: r) = c :: r.take c.toNat := by simp only [txt]; rw [if_neg hc]
      have ih := tGo_txts n (r.drop c.toNat) (by simp; omega)
      rw [txts_cons (by rw [e]; simp), e]
      have hl : (c :: r.take c.toNat).length = c.toNat + 1 := by simp; omega
      rw [hl, List.drop_succ_cons]
      simp only [List.length_drop] at ih
      constructor
      · intro hh
        rw [ih.1 (by omega)]
        simp
      · intro hh
        have : txts (r.drop c.toNat) = r.drop c.toNat := by
          simp only [List.cons_append, List.cons.injEq, true_and] at hh
          have h2 := hh.trans (List.take_append_drop c.toNat r).symm
          exact List.append_cancel_left h2
        have := ih.2 this
        omega
/-- How many bytes a letter of the program's forms takes. -/
def ilen (f : UInt8) (r : List UInt8) : Option Nat :=
  if f = 49 then some 1 else if f = 50 then some 2 else if f = 52 ∨ f = 103 ∨ f = 113 then some 4
  else if f = 110 then (if nmAt r = 0 then none else some (nmAt r))
  else if f = 116 then (if r = [] then none else some ((r.getD 0 0).toNat + 1))
  else if f = 99 then (if r = [] ∨ (r.getD 0 0).toNat + 1 < 2 ∨ 16 < (r.getD 0 0).toNat + 1 ∨ r.length < (r.getD 0 0).toNat + 1 ∨ (((r.drop 1).take (r.getD 0 0).toNat).all alnum) = false then none else some ((r.getD 0 0).toNat + 1))
  else if f = 84 then (if tGo r = 0 then none else some (tGo r))
  else if f = 109 then (if mapOk r (-1) then some r.length else none)
  else if f = 42 then some r.length else none
/-- Where names stand. -/
def iprs : List UInt8 → List UInt8 → Nat → Option (List (Nat × Nat))
  | [], d, _ => if d = [] then some [] else none
  | f :: fs, d, at' => match ilen f d with
    | none => none
    | some n => if d.length < n then none else (iprs fs (d.drop n) (at' + n)).map fun q => if f = 110 then (at', at' + n) :: q else q
def spans : List (UInt8 × List UInt8) → Nat → List (Nat × Nat)
  | [], _ => []
  | (f, p) :: r, at' => if f = 110 then (at', at' + p.length) :: spans r (at' + p.length) else spans r (at' + p.length)
/-! A letter of the program for letters of the specification. -/
theorem prs_b {fs d : List UInt8} : prs (98 :: fs) d = if d = [] then none else (prs fs (d.drop 1)).map fun r => (98, d.take 1) :: r := by
  have e : part 98 d = if d = [] then none else some (d.take 1) := rfl
  rw [prs, e]
  by_cases h : d = []
  · rw [if_pos h, if_pos h]
  · rw [if_neg h, if_neg h]
    have := List.length_pos_iff.2 h
    simp only [List.length_take, Nat.min_eq_left this]
theorem prs_bs (fs : List UInt8) : ∀ (k : Nat) (d : List UInt8) (at' : Nat), (prs (List.replicate k 98 ++ fs) d).map (fun r => spans r at') = if d.length < k then none else (prs fs (d.drop k)).map fun r => spans r (at' + k)
  | 0, d, at' => by simp
  | k + 1, d, at' => by
    rw [List.replicate_succ, List.cons_append, prs_b]
    by_cases h : d = []
    · subst h; simp
    · have hl := List.length_pos_iff.2 h
      rw [if_neg h, Option.map_map]
      have e : ((fun r => spans r at') ∘ fun r => ((98 : UInt8), d.take 1) :: r) = fun r => spans r (at' + 1) := by
        funext r
        simp only [Function.comp, spans]
        rw [if_neg (by decide)]
        simp only [List.length_take, Nat.min_eq_left hl]
      rw [e, prs_bs fs k, List.length_drop, List.drop_drop, Nat.add_comm 1 k, show at' + 1 + k = at' + (k + 1) by omega]
      by_cases h2 : d.length < k + 1
      · rw [if_pos (by omega), if_pos h2]
      · rw [if_neg (by omega), if_neg h2]
/-- Forms that take the same. -/
def Same (p q : List UInt8) : Prop := ∀ d at', iprs p d at' = (prs q d).map fun r => spans r at'
theorem same_nil : Same [] [] := fun d at' => by
  simp only [iprs, prs]
  by_cases h : d = [] <;> simp [h, spans]
theorem same_k {p q : List UInt8} (h : Same p q) {f : UInt8} {k : Nat} (hf : f ≠ 110) (hk : ∀ d, ilen f d = some k) : Same (f :: p) (List.replicate k 98 ++ q) := fun d at' => by
  rw [prs_bs, iprs, hk]
  simp only [if_neg hf]
  by_cases h2 : d.length < k
  · rw [if_pos h2, if_pos h2]
  · rw [if_neg h2, if_neg h2, h, Option.map_map]
    rfl
theorem same_n {p q : List UInt8} (h : Same p q) : Same (110 :: p) (110 :: q) := fun d at' => by
  have e1 : ilen 110 d = if nmAt d = 0 then none else some (nmAt d) := rfl
  have e2 : part 110 d = if nmAt d = 0 then none else some (d.take (nmAt d)) := rfl
  rw [iprs, prs, e1, e2]
  have hl := nmAt_le d
  by_cases h0 : nmAt d = 0
  · simp [h0]
  · simp only [if_neg h0, List.length_take, Nat.min_eq_left hl]
    rw [if_neg (by omega), h, Option.map_map, Option.map_map]
    congr 1
    funext r
    simp [spans, Nat.min_eq_left hl]
theorem same_t {p q : List UInt8} (h : Same p q) : Same (116 :: p) (116 :: q) := fun d at' => by
  have e1 : ilen 116 d = if d = [] then none else some ((d.getD 0 0).toNat + 1) := rfl
  have e2 : part 116 d = if txt d = [] then none else some (txt d) := rfl
  rw [iprs, prs, e1, e2]
  cases d with
  | nil => simp [txt]
  | cons c r =>
    simp only [List.getD_cons_zero, txt]
    by_cases hc : r.length < c.toNat
    · simp [hc]
    · have hl : (c :: r.take c.toNat).length = c.toNat + 1 := by simp; omega
      simp only [if_neg hc]
      rw [if_neg (by simp), if_neg (by simp)]
      simp only [hl, List.length_cons]
      rw [if_neg (by omega), h, Option.map_map, Option.map_map]
      congr 1
      funext x
      simp only [Function.comp, spans, hl, if_neg (show (116 : UInt8) ≠ 110 by decide)]
theorem same_T : Same [84] [115] := fun d at' => by
  have e1 : ilen 84 d = if tGo d = 0 then none else some (tGo d) := rfl
  have e2 : part 115 d = if txts d = [] then none else some (txts d) := rfl
  rw [iprs, prs, e1, e2]
  have g1 := tGo_txts _ d (Nat.le_refl _)
  have g2 := tGo_ge _ d (Nat.le_refl _)
  have g3 := txts_len _ d (Nat.le_refl _)
  cases d with
  | nil => simp [tGo, txts_nil (s := []) rfl]
  | cons c r =>
    have hpos : tGo (c :: r) ≠ 0 := by simp only [List.length_cons] at g2; omega
    simp only [if_neg hpos]
    by_cases h : tGo (c :: r) ≤ (c :: r).length
    · have e := g1.1 h
      have e' : tGo (c :: r) = (c :: r).length := by omega
      rw [e, e']
      simp [iprs, prs, spans]
    · rw [if_pos (by omega)]
      have hne : txts (c :: r) ≠ c :: r := fun e => h (g1.2 e)
      by_cases h0 : txts (c :: r) = []
      · simp [h0]
      · simp only [if_neg h0]
        rw [prs, if_neg]
        · rfl
        · intro hd
          have hl : (txts (c :: r)).length = (c :: r).length := by
            have := congrArg List.length hd
            simp only [List.length_drop, List.length_nil] at this
            omega
          have hp : ∀ (n : Nat) (s : List UInt8), s.length ≤ n → ∃ q, s = txts s ++ q := fun n => by
            induction n with
            | zero =>
              intro s hs
              have e0 : s = [] := List.eq_nil_of_length_eq_zero (by omega)
              subst e0
              exact ⟨[], by rw [txts_nil rfl]; rfl⟩
            | succ n ih =>
              intro s hs
              by_cases ht : txt s = []
              · exact ⟨s, by rw [txts_nil ht]; rfl⟩
              · have h1 := List.length_pos_iff.2 ht
                obtain ⟨q, hq⟩ := ih (s.drop (txt s).length) (by simp; omega)
                refine ⟨q, ?_⟩
                rw [txts_cons ht, List.append_assoc, ← hq]
                have : s.take (txt s).length = txt s := by
                  cases s with
                  | nil => rfl
                  | cons c r =>
                    simp only [txt]
                    split
                    · rfl
                    · simp <;> omega
                conv => lhs; rw [← List.take_append_drop (txt s).length s, this]
          obtain ⟨q, hq⟩ := hp _ (c :: r) (Nat.le_refl _)
          have : q = [] := by
            have h3 := congrArg List.length hq
            simp only [List.length_append] at h3
            exact List.eq_nil_of_length_eq_zero (by omega)
          rw [this, List.append_nil] at hq
          exact hne hq.symm
theorem same_m : Same [109] [109] := fun d at' => by
  have e1 : ilen 109 d = if mapOk d (-1) then some d.length else none := rfl
  have e2 : part 109 d = if mapOk d (-1) then some d else none := rfl
  rw [iprs, prs, e1, e2]
  cases mapOk d (-1) <;> simp [iprs, prs, spans]
theorem same_c : Same [99, 42] [99] := fun d at' => by
  have e1 : ilen 99 d = if d = [] ∨ (d.getD 0 0).toNat + 1 < 2 ∨ 16 < (d.getD 0 0).toNat + 1 ∨ d.length < (d.getD 0 0).toNat + 1 ∨ (((d.drop 1).take (d.getD 0 0).toNat).all alnum) = false then none else some ((d.getD 0 0).toNat + 1) := rfl
  have e2 : part 99 d = if 2 ≤ (txt d).length ∧ (txt d).length ≤ 16 ∧ ((txt d).drop 1).all alnum = true then some d else none := rfl
  have e3 : ∀ x, ilen 42 x = some x.length := fun x => rfl
  rw [iprs, prs, e1, e2]
  have key : (d = [] ∨ (d.getD 0 0).toNat + 1 < 2 ∨ 16 < (d.getD 0 0).toNat + 1 ∨ d.length < (d.getD 0 0).toNat + 1 ∨ (((d.drop 1).take (d.getD 0 0).toNat).all alnum) = false) ↔ ¬ (2 ≤ (txt d).length ∧ (txt d).length ≤ 16 ∧ ((txt d).drop 1).all alnum = true) := by
    cases d with
    | nil => simp [txt]
    | cons c r =>
      simp only [List.getD_cons_zero, txt, List.drop_succ_cons, List.drop_zero, List.length_cons]
      by_cases hc : r.length < c.toNat
      · simp [hc]
      · simp only [if_neg hc, List.length_cons, List.length_take, Nat.min_eq_left (show c.toNat ≤ r.length by omega), List.drop_succ_cons, List.drop_zero]
        cases (r.take c.toNat).all alnum
        · simp
        · simp
          omega
  by_cases h : 2 ≤ (txt d).length ∧ (txt d).length ≤ 16 ∧ ((txt d).drop 1).all alnum = true
  · have h' := (fun hh => key.1 hh h : ¬ (d = [] ∨ (d.getD 0 0).toNat + 1 < 2 ∨ 16 < (d.getD 0 0).toNat + 1 ∨ d.length < (d.getD 0 0).toNat + 1 ∨ (((d.drop 1).take (d.getD 0 0).toNat).all alnum) = false))
    rw [if_neg h', if_pos h]
    simp only [iprs, e3]
    rw [if_neg (fun hh => h' (.inr (.inr (.inr (.inl hh)))))]
    simp [iprs, prs, spans]
    omega
  · rw [if_pos (key.2 h), if_neg h]
    rfl
theorem same_star : Same [42] [42] := fun d at' => by
  have e1 : ilen 42 d = some d.length := rfl
  have e2 : part 42 d = some d := rfl
  rw [iprs, prs, e1, e2]
  simp [iprs, prs, spans]
theorem same_form {t : Int} {p : List UInt8} (h : implForm t = some p) : Same p (specForm t) := by
  have s1 : ∀ {p q : List UInt8}, Same p q → Same (49 :: p) (98 :: q) := fun h => same_k h (f := 49) (k := 1) (by decide) fun _ => rfl
  have s2 : ∀ {p q : List UInt8}, Same p q → Same (50 :: p) (98 :: 98 :: q) := fun h => same_k h (f := 50) (k := 2) (by decide) fun _ => rfl
  have s4 : ∀ {p q : List UInt8}, Same p q → Same (52 :: p) (98 :: 98 :: 98 :: 98 :: q) := fun h => same_k h (f := 52) (k := 4) (by decide) fun _ => rfl
  have sg : ∀ {p q : List UInt8}, Same p q → Same (103 :: p) (98 :: 98 :: 98 :: 98 :: q) := fun h => same_k h (f := 103) (k := 4) (by decide) fun _ => rfl
  have sq : ∀ {p q : List UInt8}, Same p q → Same (113 :: p) (98 :: 98 :: 98 :: 98 :: q) := fun h => same_k h (f := 113) (k := 4) (by decide) fun _ => rfl
  unfold implForm at h
  unfold specForm
  by_cases h1 : t = 1
  · rw [if_pos h1] at h ⊢; cases h; exact s4 same_nil
  rw [if_neg h1] at h ⊢
  by_cases h2 : t = 2 ∨ t = 5 ∨ t = 12 ∨ t = 39
  · rw [if_pos h2] at h ⊢; cases h; exact same_n same_nil
  rw [if_neg h2] at h ⊢
  by_cases h6 : t = 6
  · rw [if_pos h6] at h ⊢; cases h; exact same_n (same_n (sg (sg (sg (sg (sq same_nil))))))
  rw [if_neg h6] at h ⊢
  by_cases h13 : t = 13
  · rw [if_pos h13] at h ⊢; cases h; exact same_t (same_t same_nil)
  rw [if_neg h13] at h ⊢
  by_cases h15 : t = 15
  · rw [if_pos h15] at h ⊢; cases h; exact s2 (same_n same_nil)
  rw [if_neg h15] at h ⊢
  by_cases h16 : t = 16
  · rw [if_pos h16] at h ⊢; cases h; exact same_T
  rw [if_neg h16] at h ⊢
  by_cases h28 : t = 28
  · rw [if_pos h28] at h ⊢; cases h; exact sg (sg (sg (sg same_nil)))
  rw [if_neg h28] at h ⊢
  by_cases h33 : t = 33
  · rw [if_pos h33] at h ⊢; cases h; exact s2 (s2 (s2 (same_n same_nil)))
  rw [if_neg h33] at h ⊢
  by_cases h35 : t = 35
  · rw [if_pos h35] at h ⊢; cases h; exact s2 (s2 (same_t (same_t (same_t (same_n same_nil)))))
  rw [if_neg h35] at h ⊢
  by_cases h47 : t = 47
  · rw [if_pos h47] at h ⊢; cases h; exact same_n same_m
  rw [if_neg h47] at h ⊢
  by_cases h257 : t = 257
  · rw [if_pos h257] at h ⊢; cases h; exact s1 same_c
  rw [if_neg h257] at h
  cases h
theorem noForm {t : Int} (h : implForm t = none) : specForm t = [42] := by
  unfold implForm at h
  unfold specForm
  repeat' split at h
  all_goals first | (cases h; done) | skip
  simp only [*, if_false]
/-- Names in data that has its form. -/
def nmsD (t : Int) (d : List UInt8) : Option (List (Nat × Nat)) := (prs (specForm t) d).map fun r => spans r 0
theorem nmsD_none {t : Int} {d : List UInt8} (h : implForm t = none) : nmsD t d = some [] := by
  unfold nmsD
  rw [noForm h, ← same_star]
  simp [iprs, ilen]
theorem nmsD_some {t : Int} {d p : List UInt8} (h : implForm t = some p) : nmsD t d = iprs p d 0 := (same_form h d 0).symm
theorem chk_nms (t : Int) (d : List UInt8) : chk t d = if t < 0 ∨ 65535 < t then 6 else if 65535 < d.length ∨ (nmsD t d).isNone then 7 else 0 := by
  unfold chk nmsD
  rw [Option.isNone_map]
end Go.Vm
/- A row's end: the first heap out of the arguments, and what a row asks behind a call that leaves all that was there. -/
namespace Go.Vm
set_option linter.unusedVariables false
set_option linter.unusedSimpArgs false
/-- A heap of which nothing may be written. -/
structure Fst (P : Program) (ρ : Rn) (H : AH) (w : World) : Prop where
  heap : HeapR ρ H w
  own : ∀ b, ρ.own b = .no
  glob : Globs ρ P.globals.size
section
variable {P : Program} {w : World}
def rn0 (G : Nat) : Rn := ⟨fun i => if i < G then [⟨i, 0, 1, 0, 0, 0⟩] else [], fun _ => none, fun _ => .no, fun _ _ => none⟩
theorem Fst.first : Fst P (rn0 P.globals.size) ⟨P.globals.size, fun _ => .no⟩ w :=
  ⟨⟨fun _ _ => trivial, fun i hi => ⟨by simp only [rn0]; rw [if_neg (by simpa using hi)], rfl⟩, fun _ _ => rfl, fun _ _ h => by cases h⟩, fun _ => rfl,
    fun g hg => ⟨⟨g, 0, 1, 0, 0, 0⟩, by simp only [rn0]; rw [if_pos hg]; simp, rfl, rfl, rfl⟩⟩
def Rn.addP (ρ : Rn) (id : Nat) (p : Pl) : Rn := { ρ with pl := fun i => if i = id then [p] else ρ.pl i }
theorem Fst.row {ρ : Rn} {H : AH} (h : Fst P ρ H w) {b o z : Nat} {c : Array Value} {ty : TypeId} {fz : Nat × Nat} {xs : List AV} (hb : w.heap[b]? = some (.cells c ty fz)) (hz : ∀ x, x ∈ xs → x.cells.length = z) (hc : o + xs.length * z ≤ c.size)
    (hxs : All2 (VA ρ) (flat xs) ((c.toList.drop o).take (xs.length * z))) :
    Fst P (ρ.addP H.n ⟨b, o, z, 0, xs.length, c.size⟩) (H.new (.arr false 0 z xs)) w ∧ ρ.Le (ρ.addP H.n ⟨b, o, z, 0, xs.length, c.size⟩) := by
  have hnil := (h.heap.fr H.n (Nat.le_refl _)).1
  have hle : ρ.Le (ρ.addP H.n ⟨b, o, z, 0, xs.length, c.size⟩) := ⟨fun i q hq => ⟨q, by
    simp only [Rn.addP]
    by_cases e : i = H.n
    · rw [e, hnil] at hq; cases hq
    · rwa [if_neg e], rfl, rfl, rfl, rfl, rfl, Nat.le_refl _⟩, fun _ _ h => h⟩
  refine ⟨⟨⟨fun i hi => ?_, fun i hi => ?_, h.heap.bnd, fun b' i hb' => absurd ((h.own b').symm.trans hb') (by simp)⟩, h.own, fun g hg => ?_⟩, hle⟩
  · by_cases e : i = H.n
    · subst e
      rw [new_at]
      refine ⟨hz, ⟨b, o, z, 0, xs.length, c.size⟩, [], ⟨by simp [Rn.addP], rfl, Nat.zero_le _, rfl, ⟨c, ty, fz, hb, rfl, fun h => Bool.noConfusion h, by simpa using hc, ?_⟩, fun q hq => ?_, fun _ => ⟨rfl, rfl⟩, fun q hq => (by cases hq), fun x hx => (hxs.ex x hx).imp fun _ => VA.mono hle⟩⟩
      · simp only [told, List.take_length, List.drop_zero, Nat.sub_zero]
        exact hxs.mono fun _ _ => VA.mono hle
      · simp only [List.mem_singleton] at hq
        subst hq
        exact ⟨(Array.getElem?_eq_some_iff.1 hb).1, h.own b⟩
    · have hlt : i < H.n := by simp at hi; omega
      rw [new_old hlt]
      exact (h.heap.rep i hlt).of hle (by simp [Rn.addP, e]) (Nat.le_refl _) fun _ _ _ => ⟨rfl, rfl⟩
  · have hi' : H.n + 1 ≤ i := hi
    simp only [Rn.addP]
    rw [if_neg (by omega)]
    exact h.heap.fr i (by omega)
  · obtain ⟨p, p1, p2, p3, p4⟩ := h.glob g hg
    obtain ⟨p', k1, k2, k3, k4, k5, -⟩ := hle.pl g p p1
    exact ⟨p', k1, k2.trans p2, k3.trans p3, k5.trans p4⟩
theorem Stp.below {ρ ρ' : Rn} {H : AH} {w' : World} (h : Stp ρ w ρ' w') (hf : Fst P ρ H w) : RowKit.Below w.heap.size w w' := ⟨h.os, h.tape, h.out, h.sz, fun k hk => h.frame k hk (.inl (hf.own k))⟩
/-! What a row asks. -/
variable {H : Type} {enc : TypeId × Value → H}
theorem trodAll_stays (hl : laidOutB P = true) {W W' : World} (hb : RowKit.Below W.heap.size W W') {sp : Nat → Bool} : ∀ {ts : List TypeId} {vs : List Value} {ds : List (DataW H)} {ps : List MemPlace}, (∀ t, t ∈ ts → P.readableRec t = true ∧ t < P.types.size) →
    DataW.TrodAll enc P W 0 (fun _ => true) true ts vs ds ps → (∀ p, p ∈ ps → p.block < W.heap.size) → (∀ p, p ∈ ps → sp p.block = true) → DataW.TrodAll enc P W' 0 sp true ts vs ds ps
  | [], [], [], _, _, h, _, _ => h
  | t :: ts, v :: vs, d :: ds, ps, hr, h, hlt, hsp => by
    obtain ⟨p, q, h1, h2, rfl⟩ := h
    obtain ⟨r1, r2⟩ := hr t (by simp)
    exact ⟨p, q, WideElems.Trod_stays hl r1 r2 h1 (fun x hx => hb.same (hlt x (List.mem_append_left _ hx))) (fun x hx => hsp x (List.mem_append_left _ hx)),
      trodAll_stays hl hb (fun t ht => hr t (by simp [ht])) h2 (fun x hx => hlt x (List.mem_append_right _ hx)) (fun x hx => hsp x (List.mem_append_right _ hx)), rfl⟩
  | [], _ :: _, _, _, _, h, _, _ => h.elim
  | [], [], _ :: _, _, _, h, _, _ => h.elim
  | _ :: _, [], _, _, _, h, _, _ => h.elim
  | _ :: _, _ :: _, [], _, _, h, _, _ => h.elim
open Go.ChangeShapes in
/-- Like the kit's, where the call may have laid frozen rows of its own. -/
theorem post_below {f : Func} {s : ChangeSpec} {apart fresh handsOn again : Bool} {W W' : World} {args : Array Value} {v : Value} {ds gs : List (DataW H)} {before pa pv : List MemPlace}
    (hW : DataW.Whole enc P f.params.toList s.vars apart W args.toList ds gs before)
    (hres : ∀ (b : Nat) (sp : Nat → Bool) (hd : Bool), DataW.TrodAll enc P W' b sp hd f.resultTypes.toList (v.resultList f.resultTypes.size) (s.fn H (ds ++ gs)).results [])
    (hargs : ∀ sp : Nat → Bool, (∀ p ∈ before, sp p.block = true) → DataW.TrodAll enc P W' 0 sp true f.params.toList args.toList (s.fn H (ds ++ gs)).args pa)
    (hvars : ∀ sp : Nat → Bool, (∀ p ∈ before, sp p.block = true) → DataW.TrodVars enc P W' sp s.vars (s.fn H (ds ++ gs)).vars pv)
    (hps : before = pa ++ pv) (hb : RowKit.Below W.heap.size W W')
    (hok : ∀ (j : Nat) (t : TypeId) (r : Value), f.resultTypes[j]? = some t → (v.resultList f.resultTypes.size)[j]? = some r → Value.okWide P W' .any 0 t r) :
    s.post enc P f apart fresh handsOn again W args v W' := by
  have hlt := hW.lt
  have hold : ∀ p ∈ before, (fun b => decide (b < W.heap.size)) p.block = true := fun p hp => by simpa using hlt p hp
  refine ⟨ds, gs, before, [], pa, pv, hW, hres _ _ _, hargs _ hold, hvars _ hold, World.keptBut_mono (fun p hp => ⟨hp, ?_⟩) (hb.frame (· ∈ before)), fun _ => ?_⟩
  · rw [hps, List.mem_append] at hp
    exact Or.inr hp
  · obtain ⟨_, _, _, _, _, hz, hn⟩ := hW
    refine ⟨hok, _, _, ([] ++ pa) ++ pv, ⟨[] ++ pa, pv, trodAll_append (hargs _ (fun _ _ => rfl)) (hres _ _ _), hvars _ (fun _ _ => rfl), rfl, ?_, ?_⟩, ?_⟩
    · intro b off hp
      have hp' : MemPlace.cell b off ∈ before := by rw [hps]; simpa using hp
      rw [hb.frozen (p := ⟨b, off, none⟩) (hlt _ hp')]
      exact hz b off hp'
    · intro ha
      have := hn ha
      rw [hps] at this
      simpa using this
    · intro p hp _
      rw [hps]
      simpa using hp
theorem cells_one (b o : Nat) : w.cells? 0 ⟨b, o, none⟩ 1 = (w.cell? ⟨b, o, none⟩).map fun v => [v] := by
  simp only [World.cells?, Nat.zero_le, if_true]
  show ((List.range 1).mapM fun i => w.cell? ((⟨b, o, none⟩ : Addr).add i)) = _
  rw [show List.range 1 = [0] from rfl]
  simp only [List.mapM_cons, List.mapM_nil, add_eq, Nat.add_zero]
  cases w.cell? ⟨b, o, none⟩ <;> rfl
/-- Bytes of a row. -/
theorem row_bytes {ρ : Rn} : ∀ (l : List Value), (∀ v, v ∈ l → ∃ n : Int, 0 ≤ n ∧ n ≤ 255 ∧ v = .int .u8 n) → ∃ bs : List UInt8, bs.length = l.length ∧ All2 (VA ρ) (encB bs) l
  | [], _ => ⟨[], rfl, trivial⟩
  | v :: r, h => by
    obtain ⟨n, h0, h1, rfl⟩ := h v (by simp)
    obtain ⟨bs, h2, h3⟩ := row_bytes r fun x hx => h x (by simp [hx])
    refine ⟨UInt8.ofNat n.toNat :: bs, by simp [h2], ?_, h3⟩
    have e : ((UInt8.ofNat n.toNat).toNat : Int) = n := by
      rw [UInt8.toNat_ofNat', Nat.mod_eq_of_lt (by omega)]; omega
    show (Value.int .u8 n) = .int .u8 ((UInt8.ofNat n.toNat).toNat : Int)
    rw [e]
theorem Fst.bytes {base : Nat} {ρ : Rn} {H0 : AH} (F : Fst P ρ H0 w) {t e : TypeId} (ht : P.underlying t = some (.slice e)) (he : P.underlying e = some (.int .u8)) (hce : P.cellsOf e = 1) {v : Value} {d : DataW H} {ps : List MemPlace}
    (hval : Value.okWide P w .any base t v) (hd : DataW.Trod enc P w 0 (fun _ => true) true t v d ps) : ∃ ρ' H' a l, Fst P ρ' H' w ∧ ρ.Le ρ' ∧ Ext H0 H' ∧ V1 ρ' a v ∧ Byt H' a l := by
  obtain ⟨a0, len, cap, rfl⟩ := WideShapes.okWide_slice ht hval
  obtain ⟨fuel, hd⟩ := hd
  have hcs : (Value.slice a0 len cap).cells.toList = [.slice a0 len cap] := rfl
  rw [hcs] at hd
  rcases DataW.trod_slice ht hd with ⟨h1, -⟩ | ⟨ad, len', cap', elems, rest, n, -, h2, -, -, h5, -, h7, h8, h9, -⟩
  · cases h1
    exact ⟨ρ, H0, .ns, [], F, .refl ρ, .refl H0, (show VP ρ .ns _ from rfl), Sl.nil⟩
  · cases h2
    simp only [Value.okWide, ht, Cell.okWide, Cell.ok] at hval
    obtain ⟨-, -, -, hsp, row, cells, hsh, -⟩ := hval
    obtain ⟨b, off, spot⟩ := ad
    have hsp' : spot = none := hsp
    subst hsp'
    have hsh' : w.shape? b = some (row, cells) := hsh
    obtain ⟨c, ty, fz, hb⟩ : ∃ c ty fz, w.heap[b]? = some (.cells c ty fz) := by
      unfold World.shape? at hsh'
      split at hsh'
      · rename_i c ty fz hb; exact ⟨c, ty, fz, hb⟩
      · cases hsh'
    have hcell : ∀ i, i < cap → ∃ m : Int, 0 ≤ m ∧ m ≤ 255 ∧ c[off + i]? = some (.int .u8 m) := by
      intro i hi
      have key : ∀ z, (w.cells? 0 ⟨b, off + i, none⟩ 1).bind (DataW.trod enc P w 0 (fun _ => true) true n e) = some z → ∃ m : Int, 0 ≤ m ∧ m ≤ 255 ∧ c[off + i]? = some (.int .u8 m) := by
        intro z hz
        rw [cells_one, cell_row hb] at hz
        cases hci : c[off + i]? with
        | none => rw [hci] at hz; cases hz
        | some u1 =>
          rw [hci] at hz
          obtain ⟨m, hm, -, hwf⟩ := DataW.trod_int he hz
          cases hm
          simp [Lit.wf, IntKind.min, IntKind.max, IntKind.signed, IntKind.bits] at hwf
          exact ⟨m, by omega, by omega, rfl⟩
      rw [hce] at h8 h9
      simp only [add_eq, Nat.mul_one] at h8 h9
      rcases Nat.lt_or_ge i len with hl | hl
      · have := h8 i hl
        exact key _ (this.trans (List.getElem?_eq_getElem (by omega)))
      · obtain ⟨h10, h11⟩ := h9 trivial
        have := h11 (i - len) (by omega)
        rw [show off + (len + (i - len)) = off + i by omega] at this
        exact key _ (this.trans (List.getElem?_eq_getElem (by omega)))
    have hsz : cap = 0 ∨ off + cap ≤ c.size := by
      rcases Nat.eq_zero_or_pos cap with h | h
      · exact .inl h
      · obtain ⟨m, -, -, hm⟩ := hcell (cap - 1) (by omega)
        have := (Array.getElem?_eq_some_iff.1 hm).1
        exact .inr (by omega)
    by_cases hl0 : len = 0
    · subst hl0
      have ho : ∃ o, o ≤ c.size ∧ (off = o ∨ cap = 0) := by
        rcases hsz with h | h
        · exact ⟨0, Nat.zero_le _, .inr h⟩
        · exact ⟨off, by omega, .inl rfl⟩
      obtain ⟨o, ho1, ho2⟩ := ho
      obtain ⟨F', hle⟩ := F.row (o := o) (z := 1) (xs := []) hb (by simp) (by simpa using ho1) (by simp [flat, All2])
      refine ⟨_, _, .sl H0.n 0 0, [], F', hle, .new _ _, ?_, ?_⟩
      · exact ⟨⟨b, o, 1, 0, 0, c.size⟩, by simp [Rn.addP], Nat.le_refl _, Nat.le_refl _, off, cap, h5, by rcases ho2 with h | h <;> simp [h], by simpa using hsz, rfl⟩
      · exact Sl.sl (els := []) (by simp) new_at (by simp) rfl (by simp)
    · obtain ⟨bs, hbs, hrel⟩ := row_bytes (ρ := ρ) ((c.toList.drop off).take len) (fun u1 hu => by
        obtain ⟨i, hi⟩ := List.getElem?_of_mem hu
        rw [List.getElem?_take] at hi
        split at hi
        · rename_i hlt
          rw [List.getElem?_drop] at hi
          obtain ⟨m, m0, m1, hm⟩ := hcell i (by omega)
          have : c.toList[off + i]? = some (.int .u8 m) := by simpa using hm
          rw [this] at hi
          cases hi
          exact ⟨m, m0, m1, rfl⟩
        · cases hi)
      have hlen : bs.length = len := by rw [hbs]; simp; omega
      obtain ⟨F', hle⟩ := F.row (o := off) (z := 1) (xs := encB bs) hb (encB_one bs) (by rw [enc_len]; omega) (by rw [encB_cells, enc_len, hlen, Nat.mul_one]; exact hrel)
      refine ⟨_, _, .sl H0.n 0 len, bs, F', hle, .new _ _, ?_, ?_⟩
      · exact ⟨⟨b, off, 1, 0, (encB bs).length, c.size⟩, by simp [Rn.addP], Nat.le_refl _, by simp [hlen], off, cap, h5, .inl (by simp), by simpa using hsz, rfl⟩
      · have := Sl.sl (H := H0.new (.arr false 0 1 (encB bs))) (z := 1) (id := H0.n) (ix := 0) (els := encB bs) (by simp) new_at (by simp) (by rw [List.drop_zero, List.take_length]) (by simp)
        rwa [enc_len, hlen] at this
end
end Go.Vm
/- Tables of functions by levels of calls; opening arguments: rows of flat values, and structs of these. -/
namespace Go.Vm
set_option linter.unusedVariables false
set_option linter.unusedSimpArgs false
/-! Tables. -/
def lkF : List (Nat × Fn) → Nat → Option Fn
  | [], _ => none
  | p :: r, n => if p.1 = n then some p.2 else lkF r n
def AllK (P : Program) : List (Nat × Fn) → Prop
  | [] => True
  | p :: r => chkF P p.2 p.1 = true ∧ AllK P r
theorem AllK.lk {P : Program} {n : Nat} {F : Fn} : ∀ {l : List (Nat × Fn)}, AllK P l → lkF l n = some F → chkF P F n = true
  | [], _, h => by cases h
  | p :: r, ⟨h1, h2⟩, h => by
    unfold lkF at h
    split at h
    · rename_i e
      cases h; subst e; exact h1
    · exact AllK.lk h2 h
/-! Flat values. -/
/-- A cell that is read: of its kind, and no greater than values are. -/
def atomOk : Ck → AV → Prop
  | .b, a => ∃ x, a = .b x
  | .s, a => ∃ l, a = .s l ∧ l.length ≤ 9223372036854775807
  | .i k, a => ∃ n, a = .i k n ∧ k.min ≤ n ∧ n ≤ k.max
def atomsOk : List Ck → List AV → Prop
  | [], [] => True
  | k :: q, a :: r => atomOk k a ∧ atomsOk q r
  | _, _ => False
theorem atomsOk.len : ∀ {ks : List Ck} {us : List AV}, atomsOk ks us → us.length = ks.length
  | [], [], _ => rfl
  | _ :: _, _ :: _, h => by simp [h.2.len]
  | [], _ :: _, h => h.elim
  | _ :: _, [], h => h.elim
section
variable {H : Type} {enc : TypeId × Value → H} {P : Program} {w : World}
/-! A row of flat values. -/
theorem rows_flat {α : Type} {E : Enc α} {pre : α → Prop} {ρ : Rn} {cl : List Value} : ∀ (len off : Nat), off + len * E.z ≤ cl.length →
    (∀ i, i < len → ∃ x, pre x ∧ All2 (VA ρ) (E.fn x) ((cl.drop (off + i * E.z)).take E.z)) → ∃ l : List α, l.length = len ∧ (∀ x, x ∈ l → pre x) ∧ All2 (VA ρ) (flat (l.map E.v)) ((cl.drop off).take (len * E.z))
  | 0, off, _, _ => ⟨[], rfl, by simp, by simp [flat, All2]⟩
  | len + 1, off, hl, h => by
    obtain ⟨x, hx, h1⟩ := h 0 (by omega)
    rw [Nat.zero_mul, Nat.add_zero] at h1
    have e1 : (len + 1) * E.z = E.z + len * E.z := by rw [Nat.add_mul, Nat.one_mul, Nat.add_comm]
    obtain ⟨l, h2, h3, h4⟩ := rows_flat (E := E) (ρ := ρ) (cl := cl) (pre := pre) len (off + E.z) (by omega) (fun i hi => by
      have := h (i + 1) (by omega)
      rwa [Nat.add_mul, Nat.one_mul, ← Nat.add_assoc, Nat.add_right_comm] at this)
    refine ⟨x :: l, by simp [h2], fun y hy => (List.mem_cons.1 hy).elim (fun e => e ▸ hx) (h3 y), ?_⟩
    rw [e1, List.map_cons]
    show All2 (VA ρ) ((E.v x).cells ++ flat (l.map E.v)) _
    rw [List.take_add, List.drop_drop]
    exact All2.append h1 h4
theorem cells_at {b o n : Nat} {vals : List Value} {c : Array Value} {ty : TypeId} {fz : Nat × Nat} (hb : w.heap[b]? = some (.cells c ty fz)) (h : w.cells? 0 ⟨b, o, none⟩ n = some vals) (hn : 0 < n) : vals = (c.toList.drop o).take n ∧ o + n ≤ c.size := by
  obtain ⟨-, h1, h2⟩ := World.cells?_some h
  have hs : o + n ≤ c.size := by
    have h3 := h2 (n - 1) (by omega)
    rw [add_eq, cell_row hb, List.getElem?_eq_getElem (by omega)] at h3
    have := (Array.getElem?_eq_some_iff.1 h3).1
    omega
  refine ⟨List.ext_getElem? fun i => ?_, hs⟩
  by_cases hi : i < n
  · have h3 := h2 i hi
    rw [add_eq, cell_row hb] at h3
    rw [← h3, List.getElem?_take, if_pos hi, List.getElem?_drop]
    simp
  · rw [List.getElem?_eq_none (by omega), List.getElem?_eq_none (by simp; omega)]
theorem Fst.slice {α : Type} {E : Enc α} {pre : α → Prop} {base : Nat} {ρ : Rn} {H0 : AH} (F : Fst P ρ H0 w) {t e : TypeId} (ht : P.underlying t = some (.slice e)) (hce : P.cellsOf e = E.z) (hz : 0 < E.z)
    (hel : ∀ n vals z, DataW.trod enc P w 0 (fun _ => true) true n e vals = some z → ∃ x : α, pre x ∧ ∀ ρ, All2 (VA ρ) (E.fn x) vals) {fuel : Nat} {v : Value} {y : DataW H × List MemPlace}
    (hval : Cell.okWide P w .any base t v) (hd : DataW.trod enc P w 0 (fun _ => true) true fuel t [v] = some y) : ∃ ρ' H' a l, Fst P ρ' H' w ∧ ρ.Le ρ' ∧ Ext H0 H' ∧ VP ρ' a v ∧ Sx H' E a l ∧ l.length ≤ 9223372036854775807 ∧ ∀ x, x ∈ l → pre x := by
  rcases DataW.trod_slice ht hd with ⟨h1, -⟩ | ⟨ad, len, cap, elems, rest, n, -, h2, -, -, h5, h6, h7, h8, h9, -⟩
  · cases h1
    exact ⟨ρ, H0, .ns, [], F, .refl ρ, .refl H0, (show VP ρ .ns _ from rfl), Sl.nil, by simp, by simp⟩
  · have hv := List.singleton_inj.1 h2
    subst hv
    simp only [Cell.okWide, ht, Cell.ok] at hval
    obtain ⟨-, -, -, hsp, row, cells, hsh, -⟩ := hval
    obtain ⟨b, off, spot⟩ := ad
    have hsp' : spot = none := hsp
    subst hsp'
    have hsh' : w.shape? b = some (row, cells) := hsh
    obtain ⟨c, ty, fz, hb⟩ : ∃ c ty fz, w.heap[b]? = some (.cells c ty fz) := by
      unfold World.shape? at hsh'
      split at hsh'
      · rename_i c ty fz hb; exact ⟨c, ty, fz, hb⟩
      · cases hsh'
    rw [hce] at h8 h9
    simp only [add_eq] at h8 h9
    have key : ∀ o z, (w.cells? 0 ⟨b, o, none⟩ E.z).bind (DataW.trod enc P w 0 (fun _ => true) true n e) = some z → (∃ x : α, pre x ∧ ∀ ρ, All2 (VA ρ) (E.fn x) ((c.toList.drop o).take E.z)) ∧ o + E.z ≤ c.size := by
      intro o z hzz
      cases hc : w.cells? 0 ⟨b, o, none⟩ E.z with
      | none => rw [hc] at hzz; cases hzz
      | some vals =>
        rw [hc] at hzz
        obtain ⟨k1, k2⟩ := cells_at hb hc hz
        subst k1
        exact ⟨hel _ _ _ hzz, k2⟩
    have hcell : ∀ i, i < cap → (∃ x : α, pre x ∧ ∀ ρ, All2 (VA ρ) (E.fn x) ((c.toList.drop (off + i * E.z)).take E.z)) ∧ off + i * E.z + E.z ≤ c.size := by
      intro i hi
      rcases Nat.lt_or_ge i len with hl | hl
      · exact key _ _ ((h8 i hl).trans (List.getElem?_eq_getElem (by omega)))
      · obtain ⟨h10, h11⟩ := h9 trivial
        have := h11 (i - len) (by omega)
        rw [show len + (i - len) = i by omega] at this
        exact key _ _ (this.trans (List.getElem?_eq_getElem (by omega)))
    have hsz : cap = 0 ∨ off + cap * E.z ≤ c.size := by
      rcases Nat.eq_zero_or_pos cap with h | h
      · exact .inl h
      · have := (hcell (cap - 1) (by omega)).2
        have e : cap * E.z = (cap - 1) * E.z + E.z := by
          conv => lhs; rw [show cap = (cap - 1) + 1 by omega]
          rw [Nat.add_mul, Nat.one_mul]
        exact .inr (by omega)
    have hml : len ≤ 9223372036854775807 := by unfold maxLen at h6; omega
    by_cases hl0 : len = 0
    · subst hl0
      have ho : ∃ o, o ≤ c.size ∧ (off = o ∨ cap = 0) := by
        rcases hsz with h | h
        · exact ⟨0, Nat.zero_le _, .inr h⟩
        · exact ⟨off, by omega, .inl rfl⟩
      obtain ⟨o, ho1, ho2⟩ := ho
      obtain ⟨F', hle⟩ := F.row (o := o) (z := E.z) (xs := []) hb (by simp) (by simpa using ho1) (by simp [flat, All2])
      refine ⟨_, _, .sl H0.n 0 0, [], F', hle, .new _ _, ?_, ?_, by simp, by simp⟩
      · exact ⟨⟨b, o, E.z, 0, 0, c.size⟩, by simp [Rn.addP], Nat.le_refl _, Nat.le_refl _, off, cap, h5, by rcases ho2 with h | h <;> simp [h], by simpa using hsz, rfl⟩
      · exact Sl.sl (els := []) (by simp) new_at (by simp) rfl (by simp)
    · have hsz' : off + cap * E.z ≤ c.size := hsz.resolve_left (by omega)
      have hlc : len * E.z ≤ cap * E.z := Nat.mul_le_mul_right _ h5
      obtain ⟨l, hlen, hpre, hrel⟩ := rows_flat (E := E) (pre := pre) (ρ := ρ) (cl := c.toList) len off (by simp; omega) (fun i hi => by
        obtain ⟨x, hx, hx'⟩ := (hcell i (by omega)).1
        exact ⟨x, hx, hx' ρ⟩)
      obtain ⟨F', hle⟩ := F.row (o := off) (z := E.z) (xs := l.map E.v) hb (fun x hx => by
        obtain ⟨y, -, rfl⟩ := List.mem_map.1 hx
        exact Enc.cells y) (by rw [List.length_map, hlen]; omega) (by rw [List.length_map, hlen]; exact hrel)
      refine ⟨_, _, .sl H0.n 0 len, l, F', hle, .new _ _, ?_, ?_, by omega, hpre⟩
      · exact ⟨⟨b, off, E.z, 0, (l.map E.v).length, c.size⟩, by simp [Rn.addP], Nat.le_refl _, by simp [hlen], off, cap, h5, .inl (by simp), by simpa using hsz, rfl⟩
      · have := Sl.sl (H := H0.new (.arr false 0 E.z (l.map E.v))) (z := E.z) (id := H0.n) (ix := 0) (els := l.map E.v) (by simp) new_at (by simp) (by rw [List.drop_zero, List.take_length]) (by simp)
        rwa [List.length_map, hlen] at this
end
end Go.Vm
/- A function that gives a row it made: at its end the elder places of the row are let go, so that its parts may be told. -/
namespace Go.Vm
set_option linter.unusedVariables false
set_option linter.unusedSimpArgs false
def Rn.only (ρ : Rn) (id : Nat) (p : Pl) : Rn := { ρ with pl := fun i => if i = id then [p] else ρ.pl i }
section
variable {ρ ρ0 : Rn} {id : Nat} {p : Pl}
theorem VP.only {a : AV} {v v0 : Value} (h0 : ρ0.pl id = []) (hv0 : VP ρ0 a v0) (h : VP ρ a v) : VP (ρ.only id p) a v := by
  have key : ∀ j q q0, q0 ∈ ρ0.pl j → q ∈ ρ.pl j → q ∈ (ρ.only id p).pl j := fun j q q0 hq0 hq => by
    simp only [Rn.only]
    by_cases e : j = id
    · rw [e, h0] at hq0; cases hq0
    · rwa [if_neg e]
  cases a <;> try exact h
  case pv j off => obtain ⟨q0, hq0, -⟩ := hv0; obtain ⟨q, hq, hr⟩ := h; exact ⟨q, key j q q0 hq0 hq, hr⟩
  case pe j ix off ext => obtain ⟨q0, hq0, -⟩ := hv0; obtain ⟨q, hq, hr⟩ := h; exact ⟨q, key j q q0 hq0 hq, hr⟩
  case sl j ix len => obtain ⟨q0, hq0, -⟩ := hv0; obtain ⟨q, hq, hr⟩ := h; exact ⟨q, key j q q0 hq0 hq, hr⟩
theorem VA.only {a : AV} {v v0 : Value} (h0 : ρ0.pl id = []) (hv0 : VA ρ0 a v0) (h : VA ρ a v) : VA (ρ.only id p) a v := by
  cases a
  case fn f caps =>
    obtain ⟨rc, e, hc⟩ := h
    obtain ⟨rc0, e0, hc0⟩ := hv0
    exact ⟨rc, e, All2.imp_mem (fun x y hx hxy => by
      obtain ⟨y0, hy0⟩ := hc0.ex x hx
      exact VP.only h0 hy0 hxy) hc⟩
  all_goals (simp only [VA] at hv0 h ⊢; exact VP.only h0 hv0 h)
theorem V1.only {a : AV} {v v0 : Value} (h0 : ρ0.pl id = []) (hv0 : V1 ρ0 a v0) (h : V1 ρ a v) : V1 (ρ.only id p) a v := by
  cases a
  case ag xs =>
    obtain ⟨rc, e, hc⟩ := h
    obtain ⟨rc0, e0, hc0⟩ := hv0
    exact ⟨rc, e, All2.imp_mem (fun x y hx hxy => by
      obtain ⟨y0, hy0⟩ := hc0.ex x hx
      exact VA.only h0 hy0 hxy) hc⟩
  all_goals (simp only [V1] at hv0 h ⊢; exact VA.only h0 hv0 h)
theorem mem_flat {x : AV} : ∀ {l : List AV}, x ∈ flat l ↔ ∃ a, a ∈ l ∧ x ∈ a.cells
  | [] => by simp [flat]
  | a :: r => by simp [flat, mem_flat (l := r)]
theorem mem_told {x : AV} {q : Pl} {xs : List AV} (h : x ∈ flat (told q xs)) : x ∈ flat xs := by
  obtain ⟨a, h1, h2⟩ := mem_flat.1 h
  exact mem_flat.2 ⟨a, List.mem_of_mem_take (List.mem_of_mem_drop h1), h2⟩
theorem Valid.only {w : World} {q : Pl} {xs : List AV} {rw : Bool} (h0 : ρ0.pl id = []) (hc : ∀ x, x ∈ flat xs → ∃ v, VA ρ0 x v) (h : Valid ρ w q xs rw) : Valid (ρ.only id p) w q xs rw := by
  obtain ⟨c, ty, fz, h1, h2, h3, h4, h5⟩ := h
  refine ⟨c, ty, fz, h1, h2, h3, h4, All2.imp_mem (fun x y hx hxy => ?_) h5⟩
  obtain ⟨v0, hv0⟩ := hc x (mem_told hx)
  exact hv0.only h0 hxy
theorem RepAt.only {w w0 : World} {i : Nat} {o : Ob} (h0 : ρ0.pl id = []) (hi : i ≠ id) (hr0 : RepAt ρ0 w0 i o) (h : RepAt ρ w i o) : RepAt (ρ.only id p) w i o := by
  cases o with
  | no => trivial
  | arr rw st z xs =>
    obtain ⟨hz, q, rest, hA⟩ := h
    obtain ⟨-, q0, rest0, hA0⟩ := hr0
    refine ⟨hz, q, rest, ⟨by simp only [Rn.only]; rw [if_neg hi]; exact hA.hpl, hA.hx, hA.hs, hA.hz, hA.hv.only h0 hA0.hcl, hA.hown, hA.hst0, fun r hr => ?_, fun x hx => ?_⟩⟩
    · obtain ⟨h1, h2, h3, h4, h5⟩ := hA.hrest r hr
      exact ⟨h1, h2, h3, h4, fun hs => (h5 hs).only h0 hA0.hcl⟩
    · obtain ⟨v0, hv0⟩ := hA0.hcl x hx
      obtain ⟨v, hv⟩ := hA.hcl x hx
      exact ⟨v, hv0.only h0 hv⟩
  | map rw es =>
    obtain ⟨b, h1, h2, ents, clk, h3, h4⟩ := h
    obtain ⟨b0, -, -, ents0, clk0, -, h40⟩ := hr0
    refine ⟨b, h1, h2, ents, clk, h3, All2.imp_mem (fun x y hx hxy => ?_) h4⟩
    obtain ⟨y0, hy0⟩ := h40.ex x hx
    exact ⟨hy0.1.only h0 hxy.1, hy0.2.only h0 hxy.2⟩
end
/-- Its end, told so. -/
structure Stl (H H1 : AH) (v : AV) (H' : AH) : Prop where
  ex : ∃ id n k c rw st z xs, v = .tp [.sl id 0 n, .i k c] ∧ H1.at' id = .arr rw st z xs ∧ n = xs.length ∧ 0 < n ∧ H.n ≤ id ∧ id < H1.n ∧ (∀ x, x ∈ flat xs → x.isI = true) ∧
    H'.n = H1.n ∧ ∀ i, H'.at' i = if i < H.n then H.at' i else if i = id then .arr rw 0 z xs else .no
  old : ∀ i, i < H.n → H1.at' i = H.at' i
theorem Stl.back {H H1 H' : AH} {v : AV} {ρ ρ' : Rn} {w w' : World} {r : Value} (R : Stl H H1 v H') (hH : HeapR ρ H w) (hs : Stp ρ w ρ' w') (hv : V2 ρ' v r) (h1 : HeapR ρ' H1 w') :
    ∃ ρ'', Stp ρ w ρ'' w' ∧ V2 ρ'' v r ∧ HeapR ρ'' H' w' := by
  obtain ⟨⟨id, n, k, c, rw, st, z, xs, rfl, hat, hn, hpos, hid, hlt, hI, hn', hH'⟩, hold⟩ := R
  have hrep := h1.rep id hlt
  rw [hat] at hrep
  obtain ⟨hz, p, rest, hA⟩ := hrep
  have h0 : ρ.pl id = [] := (hH.fr id hid).1
  have hint : ∀ x, x ∈ flat xs → ∃ v, VA ρ x v := fun x hx => by
    have := hI x hx
    cases x <;> first | exact ⟨_, rfl⟩ | cases this
  obtain ⟨ys, rfl, hys⟩ := hv
  obtain ⟨y1, y2, hyl, g1, g2⟩ : ∃ y1 y2, ys.toList = [y1, y2] ∧ V1 ρ' (.sl id 0 n) y1 ∧ V1 ρ' (.i k c) y2 := by
    cases hy : ys.toList with
    | nil => rw [hy] at hys; exact hys.elim
    | cons a l =>
      rw [hy] at hys
      cases l with
      | nil => exact hys.2.elim
      | cons b l =>
        cases l with
        | nil => exact ⟨a, b, rfl, hys.1, hys.2.1⟩
        | cons d l => exact hys.2.2.elim
  obtain ⟨q, hq, q1, q2, hq3⟩ := g1
  have hqp : q = p := by
    rw [hA.hpl] at hq
    rcases List.mem_cons.1 hq with e | e
    · exact e
    · have := (hA.hrest q e).2.1
      omega
  subst hqp
  have hle : ρ.Le (ρ'.only id q) := ⟨fun j a ha => by
    have hj : j ≠ id := fun e => by rw [e, h0] at ha; cases ha
    obtain ⟨a', k1, k2⟩ := hs.le.pl j a ha
    exact ⟨a', by simp only [Rn.only]; rw [if_neg hj]; exact k1, k2⟩, hs.le.ob⟩
  refine ⟨ρ'.only id q, ⟨hle, hs.own, hs.frame, hs.sz, hs.os, hs.tape, hs.out⟩, ⟨ys, rfl, ?_⟩, ?_⟩
  · rw [hyl]
    exact ⟨⟨q, by simp [Rn.only], q1, q2, hq3⟩, g2, trivial⟩
  · refine ⟨fun i hi => ?_, fun i hi => ?_, h1.bnd, fun b i hb => by rw [hn']; exact h1.ids b i hb⟩
    · rw [hH' i]
      by_cases hio : i < H.n
      · rw [if_pos hio]
        have := h1.rep i (by omega)
        rw [hold i hio] at this
        exact RepAt.only h0 (by omega) (hH.rep i hio) this
      · rw [if_neg hio]
        by_cases hii : i = id
        · rw [if_pos hii]
          subst hii
          refine ⟨hz, q, [], ⟨by simp [Rn.only], hA.hx, hA.hs, hA.hz, hA.hv.only h0 hint, fun a ha => ?_, fun _ => ⟨rfl, by omega⟩, fun a ha => (by cases ha), fun x hx => ?_⟩⟩
          · rw [List.mem_singleton] at ha
            subst ha
            exact hA.hown a (by simp)
          · obtain ⟨v0, hv0⟩ := hint x hx
            exact ⟨v0, hv0.mono hle⟩
        · rw [if_neg hii]; trivial
    · have hi' : H1.n ≤ i := by omega
      refine ⟨?_, (h1.fr i hi').2⟩
      simp only [Rn.only]
      rw [if_neg (by omega)]
      exact (h1.fr i hi').1
end Go.Vm
/- A row's first heap with package-level variables that are read: a map of text, and its variable. -/
namespace Go.Vm
set_option linter.unusedVariables false
set_option linter.unusedSimpArgs false
section
variable {P : Program} {w : World}
def rn1 (cs : Nat → Nat) (G : Nat) : Rn := ⟨fun i => if i < G then [⟨i, 0, 1, 0, 0, cs i⟩] else [], fun _ => none, fun _ => .no, fun _ _ => none⟩
theorem Fst.first1 (cs : Nat → Nat) : Fst P (rn1 cs P.globals.size) ⟨P.globals.size, fun _ => .no⟩ w :=
  ⟨⟨fun _ _ => trivial, fun i hi => ⟨by simp only [rn1]; rw [if_neg (by simpa using hi)], rfl⟩, fun _ _ => rfl, fun _ _ h => by cases h⟩, fun _ => rfl,
    fun g hg => ⟨⟨g, 0, 1, 0, 0, cs g⟩, by simp only [rn1]; rw [if_pos hg]; simp, rfl, rfl, rfl⟩⟩
def Rn.addO (ρ : Rn) (id b : Nat) : Rn := { ρ with ob := fun i => if i = id then some b else ρ.ob i }
theorem Fst.map {ρ : Rn} {H : AH} (h : Fst P ρ H w) {b : Nat} {ents : Array MapEntry} {clk : Nat} {es : List (AV × AV)} (hb : w.heap[b]? = some (.map ents clk)) (hes : All2 (EntR ρ) es ents.toList) :
    Fst P (ρ.addO H.n b) (H.new (.map false es)) w ∧ ρ.Le (ρ.addO H.n b) := by
  have hnil := (h.heap.fr H.n (Nat.le_refl _)).2
  have hle : ρ.Le (ρ.addO H.n b) := ⟨fun i q hq => ⟨q, hq, rfl, rfl, rfl, rfl, rfl, Nat.le_refl _⟩, fun i b' hb' => by
    simp only [Rn.addO]
    by_cases e : i = H.n
    · rw [e, hnil] at hb'; cases hb'
    · rwa [if_neg e]⟩
  refine ⟨⟨⟨fun i hi => ?_, fun i hi => ?_, h.heap.bnd, fun b' i hb' => absurd ((h.own b').symm.trans hb') (by simp)⟩, h.own, fun g hg => ?_⟩, hle⟩
  · by_cases e : i = H.n
    · subst e
      rw [new_at]
      exact ⟨b, by simp [Rn.addO], h.own b, ents, clk, hb, hes.mono fun _ _ => EntR.mono hle⟩
    · have hlt : i < H.n := by simp at hi; omega
      rw [new_old hlt]
      exact (h.heap.rep i hlt).of hle rfl (Nat.le_refl _) fun _ _ _ => ⟨rfl, rfl⟩
  · have hi' : H.n + 1 ≤ i := hi
    have := h.heap.fr i (by omega)
    refine ⟨this.1, ?_⟩
    simp only [Rn.addO]
    rw [if_neg (by omega)]
    exact this.2
  · exact h.glob g hg
theorem Fst.glob1 {ρ : Rn} {H : AH} (h : Fst P ρ H w) {g : Nat} {c : Array Value} {ty : TypeId} {fz : Nat × Nat} {x : AV} {v : Value} (hg : g < H.n) (hpl : ρ.pl g = [⟨g, 0, 1, 0, 0, c.size⟩]) (hb : w.heap[g]? = some (.cells c ty fz)) (hc : c.toList = [v]) (hx : VA ρ x v) :
    Fst P (ρ.addP g ⟨g, 0, 1, 0, 1, c.size⟩) (H.set g (.arr false 0 1 [x])) w ∧ ρ.Le (ρ.addP g ⟨g, 0, 1, 0, 1, c.size⟩) := by
  have hsz : c.size = 1 := by rw [← Array.length_toList, hc]; rfl
  have hle : ρ.Le (ρ.addP g ⟨g, 0, 1, 0, 1, c.size⟩) := ⟨fun i q hq => by
    by_cases e : i = g
    · rw [e, hpl, List.mem_singleton] at hq
      subst hq
      exact ⟨⟨g, 0, 1, 0, 1, c.size⟩, by simp [Rn.addP, e], rfl, rfl, rfl, rfl, rfl, Nat.zero_le _⟩
    · exact ⟨q, by simp only [Rn.addP]; rwa [if_neg e], rfl, rfl, rfl, rfl, rfl, Nat.le_refl _⟩, fun _ _ h => h⟩
  have hcx := hx.one.2.2
  refine ⟨⟨⟨fun i hi => ?_, fun i hi => ?_, h.heap.bnd, fun b' i hb' => absurd ((h.own b').symm.trans hb') (by simp)⟩, h.own, fun g hg => ?_⟩, hle⟩
  · by_cases e : i = g
    · subst e
      rw [set_at]
      have hfl : flat [x] = [x] := by simp [flat, hcx]
      refine ⟨fun y hy => ?_, ⟨i, 0, 1, 0, 1, c.size⟩, [], ⟨by simp [Rn.addP], rfl, Nat.zero_le _, rfl, ⟨c, ty, fz, hb, rfl, fun h => Bool.noConfusion h, by simp [hsz], ?_⟩, fun q hq => ?_, fun _ => ⟨rfl, rfl⟩, fun q hq => (by cases hq), fun y hy => ?_⟩⟩
      · rw [List.mem_singleton] at hy
        rw [hy, hcx]; rfl
      · simp only [told, List.take_succ_cons, List.take_zero, List.drop_zero, hfl, hc]
        exact ⟨hx.mono hle, trivial⟩
      · simp only [List.mem_singleton] at hq
        subst hq
        exact ⟨(Array.getElem?_eq_some_iff.1 hb).1, h.own i⟩
      · rw [hfl, List.mem_singleton] at hy
        subst hy
        exact ⟨v, hx.mono hle⟩
    · rw [set_ne e]
      exact (h.heap.rep i hi).of hle (by simp [Rn.addP, e]) (Nat.le_refl _) fun _ _ _ => ⟨rfl, rfl⟩
  · have := h.heap.fr i hi
    simp only [Rn.addP]
    have hne : i ≠ g := by have : H.n ≤ i := hi; omega
    rw [if_neg hne]
    exact this
  · obtain ⟨p, p1, p2, p3, p4⟩ := h.glob g hg
    obtain ⟨p', k1, k2, k3, k4, k5, -⟩ := hle.pl g p p1
    exact ⟨p', k1, k2.trans p2, k3.trans p3, k5.trans p4⟩
/-! Maps found by the same pairs are alike. -/
theorem mpFind_some {es : List (AV × AV)} {k v : AV} : mpFind es k = some v → ∃ e, e ∈ es ∧ cellsEq k.cells e.1.cells = true ∧ e.2 = v := by
  induction es with
  | nil => intro h; cases h
  | cons e r ih =>
    intro h
    simp only [mpFind] at h
    split at h
    · rename_i hk
      exact ⟨e, by simp, hk, Option.some.inj h⟩
    · obtain ⟨e', h1, h2⟩ := ih h
      exact ⟨e', by simp [h1], h2⟩
theorem mpFind_none {es : List (AV × AV)} {k : AV} : mpFind es k = none → ∀ e, e ∈ es → cellsEq k.cells e.1.cells = false := by
  induction es with
  | nil => intro _ e he; cases he
  | cons e r ih =>
    intro h e' he'
    simp only [mpFind] at h
    split at h
    · cases h
    · rename_i hk
      rcases List.mem_cons.1 he' with e1 | e1
      · rw [e1]; simpa using hk
      · exact ih h e' e1
theorem mpFind_same {es fs : List (AV × AV)} {k : AV} (h1 : ∀ e, e ∈ es → e ∈ fs) (h2 : ∀ e, e ∈ fs → e ∈ es) (hf : ∀ e e', e ∈ fs → e' ∈ fs → cellsEq k.cells e.1.cells = true → cellsEq k.cells e'.1.cells = true → e.2 = e'.2) : mpFind es k = mpFind fs k := by
  cases he : mpFind es k with
  | none =>
    cases hf' : mpFind fs k with
    | none => rfl
    | some v =>
      obtain ⟨e, g1, g2, -⟩ := mpFind_some hf'
      have := mpFind_none he e (h2 e g1)
      rw [g2] at this; cases this
  | some v =>
    obtain ⟨e, g1, g2, g3⟩ := mpFind_some he
    cases hf' : mpFind fs k with
    | none =>
      have := mpFind_none hf' e (h1 e g1)
      rw [g2] at this; cases this
    | some v' =>
      obtain ⟨e', k1, k2, k3⟩ := mpFind_some hf'
      rw [← g3, ← k3, hf e e' (h1 e g1) k1 g2 k2]
end
end Go.Vm
/- The writer of messages: one record without names in its data; a message of one such record. -/
namespace Go.Vm
set_option linter.unusedVariables false
set_option linter.unusedSimpArgs false
def T_hasP (C : Tab) (f : Nat) : Prop := ∀ (t : Int) (H : AH), C f [.i .i64 t] H = some (.b (hasP t), H)
section
variable {C : Tab}
end
end Go.Vm
/- The writer of messages: a message of one record among the extra ones. -/
namespace Go.Vm
set_option linter.unusedVariables false
set_option linter.unusedSimpArgs false
def hd0 : Hd := ⟨0, false, 0, false, false, false, false, false, false, false, 0⟩
section
variable {C : Tab}
end
end Go.Vm
/- Functions' code as literals of the abstract machine, printed by wip/tools/lits.py; the kernel checks each against the translation. -/
namespace Go.Vm
set_option linter.unusedVariables false
set_option linter.unusedSimpArgs false
/-- loop.example/s01858/impl.Decode -/
def c_impl_Decode : Fn := ⟨1, [(.c 2 (some 15)), (.t 3)],
    .q (.o [.lal 2 (.ag [(.i .i64 0), (.b false), (.i .i64 0), (.b false), (.b false), (.b false), (.b false), (.b false), (.b false), (.b false), (.i .i64 0), .ns, .ns, .ns, .ns]),
      .mv 3 (.c (.i .i64 0))])
    (.q (.q (.o [.mv 14 (.t 0),
      .ln 15 (.t 14),
      .bn 16 .gtr (.t 15) (.c (.i .i64 65535))])
    (.i (.t 16) (.q (.o [.bd 17 [(.i .i64 0), (.b false), (.i .i64 0), (.b false), (.b false), (.b false), (.b false), (.b false), (.b false), (.b false), (.i .i64 0), .ns, .ns, .ns, .ns] [],
      .st (.t 2) (.t 17) 15,
      .mv 3 (.c (.i .i64 11))])
    (.r))
    (.k)))
    (.q (.o [.mv 19 (.t 0),
      .cl (some 20) 32 [(.t 19)],
      .mv 18 (.t 20),
      .ex 21 (.t 18) 0,
      .ex 22 (.t 18) 1,
      .ex 23 (.t 18) 2,
      .lal 4 (.ag [(.i .i64 0), (.b false), (.i .i64 0), (.b false), (.b false), (.b false), (.b false), (.b false), (.b false), (.b false), (.i .i64 0)]),
      .lal 5 (.ag [(.i .i64 0), (.i .i64 0), (.i .i64 0), (.i .i64 0)]),
      .st (.t 4) (.t 21) 11,
      .st (.t 5) (.t 22) 4,
      .mv 6 (.t 23)])
    (.q (.q (.o [.mv 24 (.t 6),
      .bn 25 .neq (.t 24) (.c (.i .i64 0))])
    (.i (.t 25) (.q (.o [.bd 26 [(.i .i64 0), (.b false), (.i .i64 0), (.b false), (.b false), (.b false), (.b false), (.b false), (.b false), (.b false), (.i .i64 0), .ns, .ns, .ns, .ns] [],
      .mv 27 (.t 6),
      .st (.t 2) (.t 26) 15,
      .mv 3 (.t 27)])
    (.r))
    (.k)))
    (.q (.q (.o [.iaa 28 (.t 5) (.c (.i .i64 0)) 4 1,
      .ld 29 (.t 28) none,
      .iaa 30 (.t 5) (.c (.i .i64 1)) 4 1,
      .ld 31 (.t 30) none,
      .bn 32 .add (.t 29) (.t 31),
      .iaa 33 (.t 5) (.c (.i .i64 2)) 4 1,
      .ld 34 (.t 33) none,
      .bn 35 .add (.t 32) (.t 34),
      .iaa 36 (.t 5) (.c (.i .i64 3)) 4 1,
      .ld 37 (.t 36) none,
      .bn 38 .add (.t 35) (.t 37),
      .bn 39 .gtr (.t 38) (.c (.i .i64 400))])
    (.i (.t 39) (.q (.o [.bd 40 [(.i .i64 0), (.b false), (.i .i64 0), (.b false), (.b false), (.b false), (.b false), (.b false), (.b false), (.b false), (.i .i64 0), .ns, .ns, .ns, .ns] [],
      .st (.t 2) (.t 40) 15,
      .mv 3 (.c (.i .i64 12))])
    (.r))
    (.k)))
    (.q (.o [.mv 41 (.t 0),
      .bd 42 [.ns, (.i .i64 0), (.i .i64 0)] [(0, 1, (.t 41)), (1, 1, (.c (.i .i64 12)))],
      .bx 43 (.t 42),
      .mv 7 (.t 43)])
    (.q (.o [.ld 44 (.t 4) (some 11),
      .bd 45 [(.i .i64 0), (.b false), (.i .i64 0), (.b false), (.b false), (.b false), (.b false), (.b false), (.b false), (.b false), (.i .i64 0), .ns, .ns, .ns, .ns] [(0, 11, (.t 44))],
      .al 8 15 [(.ag [(.i .i64 0), (.b false), (.i .i64 0), (.b false), (.b false), (.b false), (.b false), (.b false), (.b false), (.b false), (.i .i64 0), .ns, .ns, .ns, .ns])],
      .st (.t 8) (.t 45) 15])
    (.q (.q (.o [.mv 9 (.c (.i .i64 0))])
    (.b 0 (.l [0, 2, 5, 7, 8, 9] (.q (.q (.o [.mv 46 (.t 9),
      .iaa 47 (.t 5) (.c (.i .i64 0)) 4 1,
      .ld 48 (.t 47) none,
      .bn 49 .lss (.t 46) (.t 48),
      .mv 50 (.t 49),
      .gd 50 true (.mv 51 (.t 7)),
      .gd 50 true (.nc 52 (.t 51)),
      .gd 50 true (.fa 53 (.t 52) 2),
      .gd 50 true (.ld 54 (.t 53) none),
      .gd 50 true (.bn 55 .eql (.t 54) (.c (.i .i64 0))),
      .pk 56 (.t 50) (.t 55) (.c (.b false))])
    (.i (.t 56) (.k)
    (.x 0)))
    (.q (.b 1 (.q (.o [.mv 59 (.t 7),
      .cl (some 60) 33 [(.t 59)],
      .bd 61 [(.s []), (.i .i64 0), (.i .i64 0)] [(0, 1, (.t 60))],
      .lal 10 (.ag [(.s []), (.i .i64 0), (.i .i64 0)]),
      .st (.t 10) (.t 61) 3])
    (.q (.o [.mv 62 (.t 7),
      .cl (some 63) 35 [(.t 62), (.c (.i .i64 2))],
      .cl (some 64) 34 [(.t 63)],
      .fa 65 (.t 10) 1,
      .st (.t 65) (.t 64) 1])
    (.q (.o [.mv 66 (.t 7),
      .cl (some 67) 35 [(.t 66), (.c (.i .i64 2))],
      .cl (some 68) 34 [(.t 67)],
      .fa 69 (.t 10) 2,
      .st (.t 69) (.t 68) 1])
    (.o [.fa 70 (.t 8) 11,
      .ld 71 (.t 70) none,
      .ld 72 (.t 10) (some 3),
      .lbs 73 (.ag [(.s []), (.i .i64 0), (.i .i64 0)]) 3 1 [(0, (.t 72))],
      .ap 74 (.t 71) (.t 73) 3 32,
      .fa 75 (.t 8) 11,
      .st (.t 75) (.t 74) 1])))))
    (.o [.mv 57 (.t 9),
      .bn 58 .add (.t 57) (.c (.i .i64 1)),
      .mv 9 (.t 58)]))))))
    (.q (.q (.o [.fa 76 (.t 8) 12,
      .fa 77 (.t 8) 13,
      .fa 78 (.t 8) 14,
      .lbs 79 .np 1 3 [(0, (.t 76)), (1, (.t 77)), (2, (.t 78))],
      .ln 80 (.t 79),
      .mv 81 (.c (.i .i64 0))])
    (.b 2 (.l [0, 2, 5, 7, 8, 79, 80, 81] (.q (.o [.bn 82 .lss (.t 81) (.t 80)])
    (.q (.i (.t 82) (.k)
    (.x 2))
    (.q (.b 3 (.q (.o [.mv 83 (.t 81),
      .ia 84 (.t 79) (.t 81) 1,
      .ld 85 (.t 84) none,
      .mv 11 (.t 83),
      .mv 12 (.t 85)])
    (.q (.o [.mv 13 (.c (.i .i64 0))])
    (.b 4 (.l [0, 2, 5, 7, 8, 11, 12, 13, 79, 80, 81] (.q (.q (.o [.mv 86 (.t 13),
      .mv 87 (.t 11),
      .bn 88 .add (.t 87) (.c (.i .i64 1)),
      .iaa 89 (.t 5) (.t 88) 4 1,
      .ld 90 (.t 89) none,
      .bn 91 .lss (.t 86) (.t 90),
      .mv 92 (.t 91),
      .gd 92 true (.mv 93 (.t 7)),
      .gd 92 true (.nc 94 (.t 93)),
      .gd 92 true (.fa 95 (.t 94) 2),
      .gd 92 true (.ld 96 (.t 95) none),
      .gd 92 true (.bn 97 .eql (.t 96) (.c (.i .i64 0))),
      .pk 98 (.t 92) (.t 97) (.c (.b false))])
    (.i (.t 98) (.k)
    (.x 4)))
    (.q (.b 5 (.p [⟨.mv 101 (.t 12), [], false⟩,
      ⟨.mv 102 (.t 12), [], false⟩,
      ⟨.nc 103 (.t 102), [], false⟩,
      ⟨.ld 104 (.t 103) none, [], true⟩,
      ⟨.mv 105 (.t 7), [], false⟩,
      ⟨.cl (some 106) 36 [(.t 105)], [3], false⟩,
      ⟨.lbs 107 (.ag [(.s []), (.i .i64 0), (.i .i64 0), (.i .i64 0), (.s [])]) 5 1 [(0, (.t 106))], [3], false⟩,
      ⟨.ap 108 (.t 104) (.t 107) 5 56, [], false⟩,
      ⟨.nc 109 (.t 101), [], false⟩,
      ⟨.st (.t 109) (.t 108) 1, [], false⟩]))
    (.o [.mv 99 (.t 13),
      .bn 100 .add (.t 99) (.c (.i .i64 1)),
      .mv 13 (.t 100)]))))))))
    (.o [.bn 110 .add (.t 81) (.c (.i .i64 1)),
      .mv 81 (.t 110)])))))))
    (.q (.q (.o [.mv 111 (.t 7),
      .nc 112 (.t 111),
      .fa 113 (.t 112) 2,
      .ld 114 (.t 113) none,
      .bn 115 .neq (.t 114) (.c (.i .i64 0))])
    (.i (.t 115) (.q (.p [⟨.bd 116 [(.i .i64 0), (.b false), (.i .i64 0), (.b false), (.b false), (.b false), (.b false), (.b false), (.b false), (.b false), (.i .i64 0), .ns, .ns, .ns, .ns] [], [], false⟩,
      ⟨.mv 117 (.t 7), [], false⟩,
      ⟨.nc 118 (.t 117), [], false⟩,
      ⟨.fa 119 (.t 118) 2, [], false⟩,
      ⟨.ld 120 (.t 119) none, [], true⟩,
      ⟨.st (.t 2) (.t 116) 15, [4], false⟩,
      ⟨.mv 3 (.t 120), [], false⟩])
    (.r))
    (.k)))
    (.q (.q (.o [.mv 121 (.t 7),
      .nc 122 (.t 121),
      .fa 123 (.t 122) 1,
      .ld 124 (.t 123) none,
      .mv 125 (.t 0),
      .ln 126 (.t 125),
      .bn 127 .neq (.t 124) (.t 126)])
    (.i (.t 127) (.q (.o [.bd 128 [(.i .i64 0), (.b false), (.i .i64 0), (.b false), (.b false), (.b false), (.b false), (.b false), (.b false), (.b false), (.i .i64 0), .ns, .ns, .ns, .ns] [],
      .st (.t 2) (.t 128) 15,
      .mv 3 (.c (.i .i64 10))])
    (.r))
    (.k)))
    (.q (.o [.ld 129 (.t 8) (some 15),
      .st (.t 2) (.t 129) 15,
      .mv 3 (.c (.i .i64 0))])
    (.r))))))))))))⟩
abbrev n_impl_Decode : Nat := 10
theorem k_impl_Decode : chkF Go.Proofs.Tryd.prog c_impl_Decode 10 = true := by kernel_rfl
/-- loop.example/s01858/impl.DecodeHead -/
def c_impl_DecodeHead : Fn := ⟨1, [(.c 2 (some 11)), (.c 3 (some 4)), (.t 4)],
    .q (.o [.lal 2 (.ag [(.i .i64 0), (.b false), (.i .i64 0), (.b false), (.b false), (.b false), (.b false), (.b false), (.b false), (.b false), (.i .i64 0)]),
      .lal 3 (.ag [(.i .i64 0), (.i .i64 0), (.i .i64 0), (.i .i64 0)]),
      .mv 4 (.c (.i .i64 0))])
    (.q (.q (.o [.mv 8 (.t 0),
      .ln 9 (.t 8),
      .bn 10 .lss (.t 9) (.c (.i .i64 12))])
    (.i (.t 10) (.q (.o [.bd 11 [(.i .i64 0), (.b false), (.i .i64 0), (.b false), (.b false), (.b false), (.b false), (.b false), (.b false), (.b false), (.i .i64 0)] [],
      .bd 12 [(.i .i64 0), (.i .i64 0), (.i .i64 0), (.i .i64 0)] [],
      .st (.t 2) (.t 11) 11,
      .st (.t 3) (.t 12) 4,
      .mv 4 (.c (.i .i64 8))])
    (.r))
    (.k)))
    (.q (.o [.mv 13 (.t 0),
      .sl 14 (.t 13) none (some (.c (.i .i64 12))) 1,
      .cbs 15 (.t 14),
      .mv 5 (.t 15)])
    (.q (.o [.mv 16 (.t 5),
      .ss 17 (.t 16) (some (.c (.i .i64 2))) none,
      .cl (some 18) 34 [(.t 17)],
      .mv 6 (.t 18)])
    (.q (.o [.mv 19 (.t 5),
      .cl (some 20) 34 [(.t 19)],
      .mv 21 (.t 6),
      .cl (some 22) 66 [(.t 21), (.c (.i .u64 15))],
      .mv 23 (.t 6),
      .bn 24 .shr (.t 23) (.c (.i .u64 11)),
      .bn 25 .and (.t 24) (.c (.i .i64 15)),
      .mv 26 (.t 6),
      .cl (some 27) 66 [(.t 26), (.c (.i .u64 10))],
      .mv 28 (.t 6),
      .cl (some 29) 66 [(.t 28), (.c (.i .u64 9))],
      .mv 30 (.t 6),
      .cl (some 31) 66 [(.t 30), (.c (.i .u64 8))],
      .mv 32 (.t 6),
      .cl (some 33) 66 [(.t 32), (.c (.i .u64 7))],
      .mv 34 (.t 6),
      .cl (some 35) 66 [(.t 34), (.c (.i .u64 6))],
      .mv 36 (.t 6),
      .cl (some 37) 66 [(.t 36), (.c (.i .u64 5))],
      .mv 38 (.t 6),
      .cl (some 39) 66 [(.t 38), (.c (.i .u64 4))],
      .mv 40 (.t 6),
      .bn 41 .and (.t 40) (.c (.i .i64 15)),
      .bd 42 [(.i .i64 0), (.b false), (.i .i64 0), (.b false), (.b false), (.b false), (.b false), (.b false), (.b false), (.b false), (.i .i64 0)] [(0, 1, (.t 20)), (1, 1, (.t 22)), (2, 1, (.t 25)), (3, 1, (.t 27)), (4, 1, (.t 29)), (5, 1, (.t 31)), (6, 1, (.t 33)), (7, 1, (.t 35)), (8, 1, (.t 37)), (9, 1, (.t 39)), (10, 1, (.t 41))],
      .lal 7 (.ag [(.i .i64 0), (.b false), (.i .i64 0), (.b false), (.b false), (.b false), (.b false), (.b false), (.b false), (.b false), (.i .i64 0)]),
      .st (.t 7) (.t 42) 11])
    (.q (.p [⟨.ld 43 (.t 7) (some 11), [], true⟩,
      ⟨.mv 44 (.t 5), [], false⟩,
      ⟨.ss 45 (.t 44) (some (.c (.i .i64 4))) none, [], false⟩,
      ⟨.cl (some 46) 34 [(.t 45)], [0], false⟩,
      ⟨.mv 47 (.t 5), [], false⟩,
      ⟨.ss 48 (.t 47) (some (.c (.i .i64 6))) none, [], false⟩,
      ⟨.cl (some 49) 34 [(.t 48)], [0], false⟩,
      ⟨.mv 50 (.t 5), [], false⟩,
      ⟨.ss 51 (.t 50) (some (.c (.i .i64 8))) none, [], false⟩,
      ⟨.cl (some 52) 34 [(.t 51)], [0], false⟩,
      ⟨.mv 53 (.t 5), [], false⟩,
      ⟨.ss 54 (.t 53) (some (.c (.i .i64 10))) none, [], false⟩,
      ⟨.cl (some 55) 34 [(.t 54)], [0], false⟩,
      ⟨.bd 56 [(.i .i64 0), (.i .i64 0), (.i .i64 0), (.i .i64 0)] [(0, 1, (.t 46)), (1, 1, (.t 49)), (2, 1, (.t 52)), (3, 1, (.t 55))], [], false⟩,
      ⟨.st (.t 2) (.t 43) 11, [], false⟩,
      ⟨.st (.t 3) (.t 56) 4, [], false⟩,
      ⟨.mv 4 (.c (.i .i64 0)), [], false⟩])
    (.r))))))⟩
abbrev n_impl_DecodeHead : Nat := 32
theorem k_impl_DecodeHead : chkF Go.Proofs.Tryd.prog c_impl_DecodeHead 32 = true := by kernel_rfl
/-- (*loop.example/s01858/impl.decoder).name -/
def c_impl_decoder_name : Fn := ⟨1, [(.t 2)],
    .q (.o [.mv 2 (.c (.s []))])
    (.q (.q (.o [.mv 6 (.t 0),
      .nc 7 (.t 6),
      .fa 8 (.t 7) 2,
      .ld 9 (.t 8) none,
      .bn 10 .neq (.t 9) (.c (.i .i64 0))])
    (.i (.t 10) (.q (.o [.mv 2 (.c (.s []))])
    (.r))
    (.k)))
    (.q (.p [⟨.mv 12 (.t 0), [], false⟩,
      ⟨.nc 13 (.t 12), [], false⟩,
      ⟨.fa 14 (.t 13) 0, [], false⟩,
      ⟨.ld 15 (.t 14) none, [], false⟩,
      ⟨.mv 16 (.t 0), [], false⟩,
      ⟨.nc 17 (.t 16), [], false⟩,
      ⟨.fa 18 (.t 17) 1, [], false⟩,
      ⟨.ld 19 (.t 18) none, [], false⟩,
      ⟨.cl (some 20) 67 [(.t 15), (.t 19)], [], false⟩,
      ⟨.mv 11 (.t 20), [], false⟩,
      ⟨.ex 21 (.t 11) 0, [], false⟩,
      ⟨.ex 22 (.t 11) 1, [], false⟩,
      ⟨.ex 23 (.t 11) 2, [], false⟩,
      ⟨.mv 3 (.t 21), [], false⟩,
      ⟨.mv 4 (.t 22), [], false⟩,
      ⟨.mv 5 (.t 23), [], false⟩])
    (.q (.o [.mv 24 (.t 0),
      .mv 25 (.t 5),
      .nc 26 (.t 24),
      .fa 27 (.t 26) 2,
      .st (.t 27) (.t 25) 1])
    (.q (.q (.o [.mv 28 (.t 5),
      .bn 29 .eql (.t 28) (.c (.i .i64 0))])
    (.i (.t 29) (.o [.mv 30 (.t 0),
      .mv 31 (.t 4),
      .nc 32 (.t 30),
      .fa 33 (.t 32) 1,
      .st (.t 33) (.t 31) 1])
    (.k)))
    (.q (.o [.mv 34 (.t 3),
      .mv 2 (.t 34)])
    (.r))))))⟩
abbrev n_impl_decoder_name : Nat := 33
theorem k_impl_decoder_name : chkF Go.Proofs.Tryd.prog c_impl_decoder_name 33 = true := by kernel_rfl
/-- (*loop.example/s01858/impl.decoder).take -/
def c_impl_decoder_take : Fn := ⟨2, [(.t 4)],
    .q (.o [.mv 4 (.c (.s []))])
    (.q (.q (.p [⟨.mv 5 (.t 0), [], false⟩,
      ⟨.nc 6 (.t 5), [], false⟩,
      ⟨.fa 7 (.t 6) 2, [], false⟩,
      ⟨.ld 8 (.t 7) none, [], false⟩,
      ⟨.bn 9 .eql (.t 8) (.c (.i .i64 0)), [], false⟩,
      ⟨.mv 10 (.t 9), [], false⟩,
      ⟨.gd 10 true (.mv 11 (.t 0)), [], false⟩,
      ⟨.gd 10 true (.nc 12 (.t 11)), [], false⟩,
      ⟨.gd 10 true (.fa 13 (.t 12) 1), [], false⟩,
      ⟨.gd 10 true (.ld 14 (.t 13) none), [], false⟩,
      ⟨.gd 10 true (.mv 15 (.t 1)), [], false⟩,
      ⟨.gd 10 true (.bn 16 .add (.t 14) (.t 15)), [], false⟩,
      ⟨.gd 10 true (.mv 17 (.t 0)), [], false⟩,
      ⟨.gd 10 true (.nc 18 (.t 17)), [], false⟩,
      ⟨.gd 10 true (.fa 19 (.t 18) 0), [], false⟩,
      ⟨.gd 10 true (.ld 20 (.t 19) none), [], false⟩,
      ⟨.gd 10 true (.ln 21 (.t 20)), [], false⟩,
      ⟨.gd 10 true (.bn 22 .gtr (.t 16) (.t 21)), [], false⟩,
      ⟨.pk 23 (.t 10) (.t 22) (.c (.b false)), [], false⟩])
    (.i (.t 23) (.o [.mv 24 (.t 0),
      .nc 25 (.t 24),
      .fa 26 (.t 25) 2,
      .st (.t 26) (.c (.i .i64 8)) 1])
    (.k)))
    (.q (.q (.o [.mv 27 (.t 0),
      .nc 28 (.t 27),
      .fa 29 (.t 28) 2,
      .ld 30 (.t 29) none,
      .bn 31 .neq (.t 30) (.c (.i .i64 0))])
    (.i (.t 31) (.q (.o [.mv 32 (.t 1),
      .mk 33 (.i .u8 0) 1 1 (.t 32),
      .cbs 34 (.t 33),
      .mv 4 (.t 34)])
    (.r))
    (.k)))
    (.q (.o [.mv 35 (.t 0),
      .nc 36 (.t 35),
      .fa 37 (.t 36) 1,
      .ld 38 (.t 37) none,
      .mv 39 (.t 1),
      .bn 40 .add (.t 38) (.t 39),
      .nc 41 (.t 35),
      .fa 42 (.t 41) 1,
      .st (.t 42) (.t 40) 1])
    (.q (.p [⟨.mv 43 (.t 0), [], false⟩,
      ⟨.nc 44 (.t 43), [], false⟩,
      ⟨.fa 45 (.t 44) 0, [], false⟩,
      ⟨.ld 46 (.t 45) none, [], false⟩,
      ⟨.mv 47 (.t 0), [], false⟩,
      ⟨.nc 48 (.t 47), [], false⟩,
      ⟨.fa 49 (.t 48) 1, [], false⟩,
      ⟨.ld 50 (.t 49) none, [], false⟩,
      ⟨.mv 51 (.t 1), [], false⟩,
      ⟨.bn 52 .sub (.t 50) (.t 51), [], false⟩,
      ⟨.mv 53 (.t 0), [], false⟩,
      ⟨.nc 54 (.t 53), [], false⟩,
      ⟨.fa 55 (.t 54) 1, [], false⟩,
      ⟨.ld 56 (.t 55) none, [], false⟩,
      ⟨.sl 57 (.t 46) (some (.t 52)) (some (.t 56)) 1, [], false⟩,
      ⟨.cbs 58 (.t 57), [], false⟩,
      ⟨.mv 4 (.t 58), [], false⟩])
    (.r)))))⟩
abbrev n_impl_decoder_take : Nat := 35
theorem k_impl_decoder_take : chkF Go.Proofs.Tryd.prog c_impl_decoder_take 35 = true := by kernel_rfl
/-- (*loop.example/s01858/impl.decoder).record -/
def c_impl_decoder_record : Fn := ⟨1, [(.c 2 (some 5))],
    .q (.o [.lal 2 (.ag [(.s []), (.i .i64 0), (.i .i64 0), (.i .i64 0), (.s [])])])
    (.q (.o [.mv 8 (.t 0),
      .cl (some 9) 33 [(.t 8)],
      .bd 10 [(.s []), (.i .i64 0), (.i .i64 0), (.i .i64 0), (.s [])] [(0, 1, (.t 9))],
      .lal 3 (.ag [(.s []), (.i .i64 0), (.i .i64 0), (.i .i64 0), (.s [])]),
      .st (.t 3) (.t 10) 5])
    (.q (.o [.mv 11 (.t 0),
      .cl (some 12) 35 [(.t 11), (.c (.i .i64 2))],
      .cl (some 13) 34 [(.t 12)],
      .fa 14 (.t 3) 1,
      .st (.t 14) (.t 13) 1])
    (.q (.o [.mv 15 (.t 0),
      .cl (some 16) 35 [(.t 15), (.c (.i .i64 2))],
      .cl (some 17) 34 [(.t 16)],
      .fa 18 (.t 3) 2,
      .st (.t 18) (.t 17) 1])
    (.q (.o [.mv 19 (.t 0),
      .cl (some 20) 35 [(.t 19), (.c (.i .i64 4))],
      .cl (some 21) 68 [(.t 20)],
      .fa 22 (.t 3) 3,
      .st (.t 22) (.t 21) 1])
    (.q (.o [.mv 23 (.t 0),
      .cl (some 24) 35 [(.t 23), (.c (.i .i64 2))],
      .cl (some 25) 34 [(.t 24)],
      .mv 4 (.t 25)])
    (.q (.q (.o [.mv 26 (.t 0),
      .nc 27 (.t 26),
      .fa 28 (.t 27) 2,
      .ld 29 (.t 28) none,
      .bn 30 .neq (.t 29) (.c (.i .i64 0))])
    (.i (.t 30) (.q (.o [.bd 31 [(.s []), (.i .i64 0), (.i .i64 0), (.i .i64 0), (.s [])] [],
      .st (.t 2) (.t 31) 5])
    (.r))
    (.k)))
    (.q (.o [.mv 32 (.t 0),
      .nc 33 (.t 32),
      .fa 34 (.t 33) 1,
      .ld 35 (.t 34) none,
      .mv 36 (.t 4),
      .bn 37 .add (.t 35) (.t 36),
      .mv 5 (.t 37)])
    (.q (.q (.o [.mv 38 (.t 5),
      .mv 39 (.t 0),
      .nc 40 (.t 39),
      .fa 41 (.t 40) 0,
      .ld 42 (.t 41) none,
      .ln 43 (.t 42),
      .bn 44 .gtr (.t 38) (.t 43)])
    (.i (.t 44) (.q (.o [.mv 45 (.t 0),
      .nc 46 (.t 45),
      .fa 47 (.t 46) 2,
      .st (.t 47) (.c (.i .i64 8)) 1])
    (.q (.o [.bd 48 [(.s []), (.i .i64 0), (.i .i64 0), (.i .i64 0), (.s [])] [],
      .st (.t 2) (.t 48) 5])
    (.r)))
    (.k)))
    (.q (.q (.o [.mv 49 (.t 4),
      .bn 50 .eql (.t 49) (.c (.i .i64 0))])
    (.i (.t 50) (.q (.o [.ld 51 (.t 3) (some 5),
      .st (.t 2) (.t 51) 5])
    (.r))
    (.k)))
    (.q (.q (.o [.fa 52 (.t 3) 1,
      .ld 53 (.t 52) none,
      .cl (some 54) 69 [(.t 53)],
      .un 55 .not (.t 54)])
    (.i (.t 55) (.o [.mv 56 (.t 0),
      .mv 57 (.t 4),
      .cl (some 58) 35 [(.t 56), (.t 57)],
      .fa 59 (.t 3) 4,
      .st (.t 59) (.t 58) 1])
    (.q (.o [.mv 6 (.c (.i .i64 1))])
    (.q (.o [.mv 7 (.c (.i .i64 0))])
    (.q (.q (.o [.fa 60 (.t 3) 1,
      .ld 61 (.t 60) none])
    (.b 0 (.q (.o [.bn 63 .eql (.t 61) (.c (.i .i64 15)),
      .mv 62 (.t 63)])
    (.i (.t 62) (.o [.mv 7 (.c (.i .i64 2))])
    (.q (.o [.bn 65 .eql (.t 61) (.c (.i .i64 6)),
      .mv 64 (.t 65)])
    (.i (.t 64) (.o [.mv 6 (.c (.i .i64 2))])
    (.k)))))))
    (.q (.q (.o [.mv 66 (.t 7),
      .mv 67 (.t 4),
      .bn 68 .gtr (.t 66) (.t 67)])
    (.i (.t 68) (.q (.o [.mv 69 (.t 0),
      .nc 70 (.t 69),
      .fa 71 (.t 70) 2,
      .st (.t 71) (.c (.i .i64 7)) 1])
    (.q (.o [.bd 72 [(.s []), (.i .i64 0), (.i .i64 0), (.i .i64 0), (.s [])] [],
      .st (.t 2) (.t 72) 5])
    (.r)))
    (.k)))
    (.q (.o [.mv 73 (.t 0),
      .mv 74 (.t 7),
      .cl (some 75) 35 [(.t 73), (.t 74)],
      .fa 76 (.t 3) 4,
      .st (.t 76) (.t 75) 1])
    (.q (.b 1 (.l [0, 2, 3, 5, 6] (.q (.q (.o [.mv 77 (.t 6),
      .bn 78 .gtr (.t 77) (.c (.i .i64 0))])
    (.i (.t 78) (.k)
    (.x 1)))
    (.q (.b 2 (.q (.p [⟨.fa 81 (.t 3) 4, [], false⟩,
      ⟨.ld 82 (.t 81) none, [], true⟩,
      ⟨.mv 83 (.t 0), [], false⟩,
      ⟨.cl (some 84) 33 [(.t 83)], [1], false⟩,
      ⟨.bn 85 .add (.t 82) (.t 84), [], false⟩,
      ⟨.fa 86 (.t 3) 4, [], false⟩,
      ⟨.st (.t 86) (.t 85) 1, [], false⟩])
    (.q (.q (.o [.mv 87 (.t 0),
      .nc 88 (.t 87),
      .fa 89 (.t 88) 2,
      .ld 90 (.t 89) none,
      .bn 91 .neq (.t 90) (.c (.i .i64 0))])
    (.i (.t 91) (.q (.o [.bd 92 [(.s []), (.i .i64 0), (.i .i64 0), (.i .i64 0), (.s [])] [],
      .st (.t 2) (.t 92) 5])
    (.r))
    (.k)))
    (.q (.o [.mv 93 (.t 0),
      .nc 94 (.t 93),
      .fa 95 (.t 94) 1,
      .ld 96 (.t 95) none,
      .mv 97 (.t 5),
      .bn 98 .gtr (.t 96) (.t 97)])
    (.i (.t 98) (.q (.o [.mv 99 (.t 0),
      .nc 100 (.t 99),
      .fa 101 (.t 100) 2,
      .st (.t 101) (.c (.i .i64 7)) 1])
    (.q (.o [.bd 102 [(.s []), (.i .i64 0), (.i .i64 0), (.i .i64 0), (.s [])] [],
      .st (.t 2) (.t 102) 5])
    (.r)))
    (.k))))))
    (.o [.mv 79 (.t 6),
      .bn 80 .sub (.t 79) (.c (.i .i64 1)),
      .mv 6 (.t 80)])))))
    (.p [⟨.fa 103 (.t 3) 4, [], false⟩,
      ⟨.ld 104 (.t 103) none, [], true⟩,
      ⟨.mv 105 (.t 0), [], false⟩,
      ⟨.mv 106 (.t 5), [], false⟩,
      ⟨.mv 107 (.t 0), [], false⟩,
      ⟨.nc 108 (.t 107), [], false⟩,
      ⟨.fa 109 (.t 108) 1, [], false⟩,
      ⟨.ld 110 (.t 109) none, [], false⟩,
      ⟨.bn 111 .sub (.t 106) (.t 110), [], false⟩,
      ⟨.cl (some 112) 35 [(.t 105), (.t 111)], [1], false⟩,
      ⟨.bn 113 .add (.t 104) (.t 112), [], false⟩,
      ⟨.fa 114 (.t 3) 4, [], false⟩,
      ⟨.st (.t 114) (.t 113) 1, [], false⟩])))))))))
    (.q (.q (.o [.fa 115 (.t 3) 1,
      .ld 116 (.t 115) none,
      .fa 117 (.t 3) 4,
      .ld 118 (.t 117) none,
      .cl (some 119) 70 [(.t 116), (.t 118)],
      .bn 120 .neq (.t 119) (.c (.i .i64 0))])
    (.i (.t 120) (.q (.o [.mv 121 (.t 0),
      .nc 122 (.t 121),
      .fa 123 (.t 122) 2,
      .st (.t 123) (.c (.i .i64 7)) 1])
    (.q (.o [.bd 124 [(.s []), (.i .i64 0), (.i .i64 0), (.i .i64 0), (.s [])] [],
      .st (.t 2) (.t 124) 5])
    (.r)))
    (.k)))
    (.q (.o [.ld 125 (.t 3) (some 5),
      .st (.t 2) (.t 125) 5])
    (.r)))))))))))))⟩
abbrev n_impl_decoder_record : Nat := 36
theorem k_impl_decoder_record : chkF Go.Proofs.Tryd.prog c_impl_decoder_record 36 = true := by kernel_rfl
/-- loop.example/s01858/impl.bit -/
def c_impl_bit : Fn := ⟨2, [(.t 4)],
    .q (.o [.mv 4 (.c (.b false))])
    (.q (.o [.mv 5 (.t 0),
      .mv 6 (.t 1),
      .bn 7 .shr (.t 5) (.t 6),
      .bn 8 .and (.t 7) (.c (.i .i64 1)),
      .bn 9 .eql (.t 8) (.c (.i .i64 1)),
      .mv 4 (.t 9)])
    (.r))⟩
abbrev n_impl_bit : Nat := 66
theorem k_impl_bit : chkF Go.Proofs.Tryd.prog c_impl_bit 66 = true := by kernel_rfl
/-- loop.example/s01858/impl.DecodeName -/
def c_impl_DecodeName : Fn := ⟨2, [(.t 4), (.t 5), (.t 6)],
    .q (.o [.mv 4 (.c (.s [])),
      .mv 5 (.c (.i .i64 0)),
      .mv 6 (.c (.i .i64 0))])
    (.q (.q (.o [.mv 13 (.t 1),
      .bn 14 .lss (.t 13) (.c (.i .i64 0)),
      .mv 15 (.t 14),
      .gd 15 false (.mv 16 (.t 1)),
      .gd 15 false (.mv 17 (.t 0)),
      .gd 15 false (.ln 18 (.t 17)),
      .gd 15 false (.bn 19 .gtr (.t 16) (.t 18)),
      .pk 20 (.t 15) (.c (.b true)) (.t 19)])
    (.i (.t 20) (.q (.o [.mv 4 (.c (.s [])),
      .mv 5 (.c (.i .i64 0)),
      .mv 6 (.c (.i .i64 32))])
    (.r))
    (.k)))
    (.q (.o [.mv 21 (.t 1),
      .mv 22 (.t 1),
      .mv 7 (.t 21),
      .mv 8 (.t 22)])
    (.q (.o [.mv 9 (.c (.i .i64 (-1)))])
    (.q (.o [.mv 10 (.c .ns)])
    (.b 0 (.l [0, 7, 8, 9, 10] (.b 1 (.q (.q (.o [.mv 23 (.t 7),
      .mv 24 (.t 0),
      .ln 25 (.t 24),
      .bn 26 .geq (.t 23) (.t 25)])
    (.i (.t 26) (.q (.o [.mv 4 (.c (.s [])),
      .mv 5 (.c (.i .i64 0)),
      .mv 6 (.c (.i .i64 8))])
    (.r))
    (.k)))
    (.q (.o [.mv 27 (.t 0),
      .mv 28 (.t 7),
      .ia 29 (.t 27) (.t 28) 1,
      .ld 30 (.t 29) none,
      .ci 31 .i64 (.t 30),
      .mv 11 (.t 31)])
    (.b 2 (.q (.o [.mv 57 (.t 11),
      .bn 58 .eql (.t 57) (.c (.i .i64 0)),
      .mv 56 (.t 58)])
    (.i (.t 56) (.q (.q (.o [.mv 59 (.t 9),
      .bn 60 .lss (.t 59) (.c (.i .i64 0))])
    (.i (.t 60) (.o [.mv 61 (.t 7),
      .bn 62 .add (.t 61) (.c (.i .i64 1)),
      .mv 9 (.t 62)])
    (.k)))
    (.q (.o [.mv 63 (.t 10),
      .lbs 64 (.i .u8 0) 1 1 [(0, (.c (.i .u8 0)))],
      .ap 65 (.t 63) (.t 64) 1 1,
      .cbs 66 (.t 65),
      .mv 67 (.t 9),
      .mv 4 (.t 66),
      .mv 5 (.t 67),
      .mv 6 (.c (.i .i64 0))])
    (.r)))
    (.q (.o [.mv 69 (.t 11),
      .bn 70 .leq (.t 69) (.c (.i .i64 63)),
      .mv 68 (.t 70)])
    (.i (.t 68) (.q (.q (.o [.mv 71 (.t 7),
      .bn 72 .add (.t 71) (.c (.i .i64 1)),
      .mv 73 (.t 11),
      .bn 74 .add (.t 72) (.t 73),
      .mv 75 (.t 0),
      .ln 76 (.t 75),
      .bn 77 .gtr (.t 74) (.t 76)])
    (.i (.t 77) (.q (.o [.mv 4 (.c (.s [])),
      .mv 5 (.c (.i .i64 0)),
      .mv 6 (.c (.i .i64 8))])
    (.r))
    (.k)))
    (.q (.o [.mv 78 (.t 10),
      .mv 79 (.t 0),
      .mv 80 (.t 7),
      .mv 81 (.t 7),
      .bn 82 .add (.t 81) (.c (.i .i64 1)),
      .mv 83 (.t 11),
      .bn 84 .add (.t 82) (.t 83),
      .sl 85 (.t 79) (some (.t 80)) (some (.t 84)) 1,
      .ap 86 (.t 78) (.t 85) 1 1,
      .mv 10 (.t 86)])
    (.q (.q (.o [.mv 87 (.t 10),
      .ln 88 (.t 87),
      .bn 89 .add (.t 88) (.c (.i .i64 1)),
      .bn 90 .gtr (.t 89) (.c (.i .i64 255))])
    (.i (.t 90) (.q (.o [.mv 4 (.c (.s [])),
      .mv 5 (.c (.i .i64 0)),
      .mv 6 (.c (.i .i64 3))])
    (.r))
    (.k)))
    (.o [.mv 91 (.t 7),
      .mv 92 (.t 11),
      .bn 93 .add (.c (.i .i64 1)) (.t 92),
      .bn 94 .add (.t 91) (.t 93),
      .mv 7 (.t 94)]))))
    (.q (.o [.mv 96 (.t 11),
      .bn 97 .lss (.t 96) (.c (.i .i64 192)),
      .mv 95 (.t 97)])
    (.i (.t 95) (.q (.o [.mv 4 (.c (.s [])),
      .mv 5 (.c (.i .i64 0)),
      .mv 6 (.c (.i .i64 2))])
    (.r))
    (.q (.q (.o [.mv 32 (.t 7),
      .bn 33 .add (.t 32) (.c (.i .i64 1)),
      .mv 34 (.t 0),
      .ln 35 (.t 34),
      .bn 36 .geq (.t 33) (.t 35)])
    (.i (.t 36) (.q (.o [.mv 4 (.c (.s [])),
      .mv 5 (.c (.i .i64 0)),
      .mv 6 (.c (.i .i64 8))])
    (.r))
    (.k)))
    (.q (.o [.mv 37 (.t 11),
      .bn 38 .and (.t 37) (.c (.i .i64 63)),
      .bn 39 .shl (.t 38) (.c (.i .u64 8)),
      .mv 40 (.t 0),
      .mv 41 (.t 7),
      .bn 42 .add (.t 41) (.c (.i .i64 1)),
      .ia 43 (.t 40) (.t 42) 1,
      .ld 44 (.t 43) none,
      .ci 45 .i64 (.t 44),
      .bn 46 .or (.t 39) (.t 45),
      .mv 12 (.t 46)])
    (.q (.q (.o [.mv 47 (.t 12),
      .mv 48 (.t 8),
      .bn 49 .geq (.t 47) (.t 48)])
    (.i (.t 49) (.q (.o [.mv 4 (.c (.s [])),
      .mv 5 (.c (.i .i64 0)),
      .mv 6 (.c (.i .i64 9))])
    (.r))
    (.k)))
    (.q (.q (.o [.mv 50 (.t 9),
      .bn 51 .lss (.t 50) (.c (.i .i64 0))])
    (.i (.t 51) (.o [.mv 52 (.t 7),
      .bn 53 .add (.t 52) (.c (.i .i64 2)),
      .mv 9 (.t 53)])
    (.k)))
    (.o [.mv 54 (.t 12),
      .mv 55 (.t 12),
      .mv 7 (.t 54),
      .mv 8 (.t 55)])))))))))))))))))))))⟩
abbrev n_impl_DecodeName : Nat := 67
theorem k_impl_DecodeName : chkF Go.Proofs.Tryd.prog c_impl_DecodeName 67 = true := by kernel_rfl
/-- loop.example/s01858/impl.u32 -/
def c_impl_u32 : Fn := ⟨1, [(.t 2)],
    .q (.o [.mv 2 (.c (.i .i64 0))])
    (.q (.p [⟨.ld 3 (.g 0) (some 0), [], true⟩,
      ⟨.mv 4 (.t 0), [], false⟩,
      ⟨.ss 5 (.t 4) none (some (.c (.i .i64 4))), [], false⟩,
      ⟨.csb 6 (.t 5), [0], false⟩,
      ⟨.cl (some 7) 97 [(.t 3), (.t 6)], [], false⟩,
      ⟨.ci 8 .i64 (.t 7), [], false⟩,
      ⟨.mv 2 (.t 8), [], false⟩])
    (.r))⟩
abbrev n_impl_u32 : Nat := 68
theorem k_impl_u32 : chkF Go.Proofs.Tryd.prog c_impl_u32 68 = true := by kernel_rfl
/-- (encoding/binary.bigEndian).Uint32 -/
def c_binary_bigEndian_Uint32 : Fn := ⟨2, [(.t 4)],
    .q (.o [.lbx 2 (.t 0),
      .mv 4 (.c (.i .u32 0))])
    (.q (.o [.mv 5 (.t 1),
      .ia 6 (.t 5) (.c (.i .i64 3)) 1,
      .ld 7 (.t 6) none])
    (.q (.p [⟨.mv 8 (.t 1), [], false⟩,
      ⟨.ia 9 (.t 8) (.c (.i .i64 3)) 1, [], false⟩,
      ⟨.ld 10 (.t 9) none, [], false⟩,
      ⟨.ci 11 .u32 (.t 10), [], false⟩,
      ⟨.mv 12 (.t 1), [], false⟩,
      ⟨.ia 13 (.t 12) (.c (.i .i64 2)) 1, [], false⟩,
      ⟨.ld 14 (.t 13) none, [], false⟩,
      ⟨.ci 15 .u32 (.t 14), [], false⟩,
      ⟨.bn 16 .shl (.t 15) (.c (.i .u64 8)), [], false⟩,
      ⟨.bn 17 .or (.t 11) (.t 16), [], false⟩,
      ⟨.mv 18 (.t 1), [], false⟩,
      ⟨.ia 19 (.t 18) (.c (.i .i64 1)) 1, [], false⟩,
      ⟨.ld 20 (.t 19) none, [], false⟩,
      ⟨.ci 21 .u32 (.t 20), [], false⟩,
      ⟨.bn 22 .shl (.t 21) (.c (.i .u64 16)), [], false⟩,
      ⟨.bn 23 .or (.t 17) (.t 22), [], false⟩,
      ⟨.mv 24 (.t 1), [], false⟩,
      ⟨.ia 25 (.t 24) (.c (.i .i64 0)) 1, [], false⟩,
      ⟨.ld 26 (.t 25) none, [], false⟩,
      ⟨.ci 27 .u32 (.t 26), [], false⟩,
      ⟨.bn 28 .shl (.t 27) (.c (.i .u64 24)), [], false⟩,
      ⟨.bn 29 .or (.t 23) (.t 28), [], false⟩,
      ⟨.mv 4 (.t 29), [], false⟩])
    (.r)))⟩
abbrev n_binary_bigEndian_Uint32 : Nat := 97
theorem k_binary_bigEndian_Uint32 : chkF Go.Proofs.Tryd.prog c_binary_bigEndian_Uint32 97 = true := by kernel_rfl
end Go.Vm
/- ReadEdns: the pure answer, and the runs of its helpers. -/
namespace Go.Vm
set_option linter.unusedVariables false
set_option linter.unusedSimpArgs false
def isOpt (r : Rr) : Bool := decide (r.t = 41)
def opt1 (d : List UInt8) : Opt := ((num (d.take 2) 0 : Nat), (d.drop 4).take (num ((d.drop 2).take 2) 0))
/-- Options cut off data. -/
def opsD (d : List UInt8) : Option (List Opt) :=
  if h : d = [] then some [] else
  if h2 : d.length < 4 + num ((d.drop 2).take 2) 0 then none else
  (opsD (d.drop (4 + num ((d.drop 2).take 2) 0))).map fun os => opt1 d :: os
termination_by d.length
decreasing_by
  have : d.length ≠ 0 := fun e => h (List.eq_nil_of_length_eq_zero e)
  simp; omega
theorem opsD_nil : opsD [] = some [] := by rw [opsD, dif_pos rfl]
theorem opsD_bad {d : List UInt8} (h : d ≠ []) (h2 : d.length < 4 + num ((d.drop 2).take 2) 0) : opsD d = none := by rw [opsD, dif_neg h, dif_pos h2]
theorem opsD_ok {d : List UInt8} (h : d ≠ []) (h2 : ¬ d.length < 4 + num ((d.drop 2).take 2) 0) : opsD d = (opsD (d.drop (4 + num ((d.drop 2).take 2) 0))).map fun os => opt1 d :: os := by rw [opsD, dif_neg h, dif_neg h2]
structure Ed where
  p : Bool
  sz : Int
  ver : Int
  fl : Int
  os : List Opt
def ed0 : Ed := ⟨false, 0, 0, 0, []⟩
def edV (e : Ed) (a : AV) : AV := .ag [.b e.p, .i .i64 e.sz, .i .i64 e.ver, .i .i64 e.fl, a]
def edR (r : Rr) (os : List Opt) : Ed := ⟨true, r.c, bitw .and .i64 (r.ttl.fdiv (2 ^ (min 16 IntKind.i64.bits))) 255, bitw .and .i64 r.ttl 65535, os⟩
def rdE (m : Msg) : Ed × Int :=
  if (m.an.filter isOpt).length + (m.au.filter isOpt).length > 0 ∨ (m.ex.filter isOpt).length > 1 then (ed0, 32) else
  match m.ex.filter isOpt with
  | [] => (ed0, 0)
  | r :: _ => match opsD r.d with
    | none => (ed0, 32)
    | some os => if r.o = [0] then (edR r os, 0) else (ed0, 32)
def RePost (r : Ed × Int) (H : AH) (v : AV) (H' : AH) : Prop := ∃ a, v = .tp [edV r.1 a, .i .i64 r.2] ∧ Mx H' eO a r.1.os ∧ Ext H H' ∧ ∀ i, i ∈ idA a → H.n ≤ i
theorem RePost.bad {H H' : AH} (h : Ext H H') {k : Int} : RePost (ed0, k) H (.tp [.ag [.b false, .i .i64 0, .i .i64 0, .i .i64 0, .ns], .i .i64 k]) H' := ⟨.ns, rfl, .nil, h, by simp [idA]⟩
def T_l13Count (C : Tab) (f : Nat) : Prop := ∀ (a : AV) (xs : List Rr) (H : AH), Sx H eR a xs → xs.length ≤ 1099511627776 → C f [a, .i .i64 41] H = some (.i .i64 (xs.filter isOpt).length, H)
def optR (r : Option (List Opt)) (H : AH) (v : AV) (H' : AH) : Prop := match r with
  | none => v = .tp [.ns, .b false] ∧ Ext H H'
  | some os => ∃ a, v = .tp [a, .b true] ∧ Mx H' eO a os ∧ Ext H H' ∧ ∀ i, i ∈ idA a → H.n ≤ i
def T_l13Options (C : Tab) (f : Nat) : Prop := ∀ (d : List UInt8) (H : AH), d.length ≤ 1099511627776 → ∃ v H', C f [.s d] H = some (v, H') ∧ optR (opsD d) H v H'
def T_u16 (C : Tab) (f : Nat) : Prop := ∀ (d : List UInt8) (H : AH), 2 ≤ d.length → C f [.s d] H = some (.i .i64 (num (d.take 2) 0 : Nat), H)
section
variable {C : Tab}
theorem filt_snoc {xs : List Rr} {i : Nat} (hi : i < xs.length) : (xs.take (i + 1)).filter isOpt = (xs.take i).filter isOpt ++ (if xs[i].t = 41 then [xs[i]] else []) := by
  rw [← List.take_append_getElem hi, List.filter_append]
  by_cases h : xs[i].t = 41 <;> simp [isOpt, h]
theorem r_l13Count {a : AV} {xs : List Rr} {H : AH} (h : Sx H eR a xs) (hn : xs.length ≤ 1099511627776) : Runs C c_spec_l13Count [a, .i .i64 41] H fun v H' => H' = H ∧ v = .i .i64 (xs.filter isOpt).length := by
  unfold Runs c_spec_l13Count
  obtain ⟨h1, h2⟩ := h.len
  simp -implicitDefEqProofs only [bU, reduceIte, Nat.reduceEqDiff, reduceCtorEq, implies_true, forall_const, eq_self, Nat.reduceAdd, Nat.reduceLT, bne_self_eq_false, bT, eq_self, true_implies, false_implies, forall_const, if_true, if_false, Int.reduceToNat, Nat.reduceSub, Int.reduceLE]
  refine exec_loop (fun n e M => ∃ (i : Nat) (L : List Lv) (g : Nat), i ≤ xs.length ∧ n = xs.length - i ∧ look e 0 = a ∧ look e 1 = .i .i64 41 ∧ look e 5 = .i .i64 ((xs.take i).filter isOpt).length ∧ look e 6 = .i .i64 i ∧ M = ⟨L, g, H⟩) ?_ (n := xs.length) ⟨0, _, _, by omega, by omega, rfl, rfl, rfl, rfl, rfl⟩
  rintro n e M ⟨i, L, g, hi, rfl, q0, q1, q5, q6, rfl⟩
  by_cases hlt : (i : Int) < xs.length
  · have hil : i < xs.length := by omega
    obtain ⟨b1, b2, b3, b4, b5⟩ := Sx.fdn (z := 5) h rfl hil (off := 1) (by decide)
    have b5' := fun (L : List Lv) (g : Nat) => (b5 L g).trans (show _ = AV.i .i64 xs[i].t from rfl)
    have hs := filt_snoc hil
    have hle : ((xs.take i).filter isOpt).length ≤ xs.length := Nat.le_trans (List.length_filter_le _ _) (by simp; omega)
    have w9 : IntKind.i64.wrap ((i : Int) + 1) = ((i + 1 : Nat) : Int) := by rw [w64 (by omega) (by omega)]; rfl
    by_cases ht : xs[i].t = 41
    · have w8 : IntKind.i64.wrap ((((xs.take i).filter isOpt).length : Int) + 1) = (((xs.take (i + 1)).filter isOpt).length : Int) := by rw [w64 (by omega) (by omega), hs, if_pos ht]; simp
      simp -implicitDefEqProofs only [bU, reduceIte, Nat.reduceEqDiff, reduceCtorEq, implies_true, forall_const, eq_self, Nat.reduceAdd, Nat.reduceLT, bne_self_eq_false, bT, eq_self, true_implies, false_implies, forall_const, if_true, if_false, Int.reduceToNat, Nat.reduceSub, Int.reduceLE, q0, q1, q5, q6, h1, h2, hlt, toNat_nat, b1, b2, b3, b4, b5', ht, w8, w9]
      exact ⟨xs.length - (i + 1), by omega, i + 1, _, _, by omega, rfl, rfl, rfl, rfl⟩
    · rw [if_neg ht, List.append_nil] at hs
      rw [← hs] at q5
      simp -implicitDefEqProofs only [bU, reduceIte, Nat.reduceEqDiff, reduceCtorEq, implies_true, forall_const, eq_self, Nat.reduceAdd, Nat.reduceLT, bne_self_eq_false, bT, eq_self, true_implies, false_implies, forall_const, if_true, if_false, Int.reduceToNat, Nat.reduceSub, Int.reduceLE, q0, q1, q5, q6, h1, h2, hlt, toNat_nat, b1, b2, b3, b4, b5', ht, w9]
      exact ⟨xs.length - (i + 1), by omega, i + 1, _, _, by omega, rfl, rfl, rfl, rfl⟩
  · have hil : i = xs.length := by omega
    subst hil
    rw [List.take_length] at q5
    simp -implicitDefEqProofs only [bU, reduceIte, Nat.reduceEqDiff, reduceCtorEq, implies_true, forall_const, eq_self, Nat.reduceAdd, Nat.reduceLT, bne_self_eq_false, bT, eq_self, true_implies, false_implies, forall_const, if_true, if_false, Int.reduceToNat, Nat.reduceSub, Int.reduceLE, q0, q1, q5, q6, h1, h2, hlt, endK, rsC, rsV, resV]
theorem num2 {x y : UInt8} : num [x, y] 0 = x.toNat * 256 + y.toNat := by simp [num]
theorem r_u16 {d : List UInt8} {H : AH} (hd : 2 ≤ d.length) : Runs C c_impl_u16 [.s d] H fun v H' => H' = H ∧ v = .i .i64 (num (d.take 2) 0 : Nat) := by
  unfold Runs c_impl_u16
  have h0 : (0 : Int) < d.length := by omega
  have h1 : (1 : Int) < d.length := by omega
  have v3 : (2 : Int) ^ (min 8 IntKind.i64.bits) = 256 := by decide
  have x0 := (d.getD 0 0).toNat_lt
  have x1 := (d.getD 1 0).toNat_lt
  have w1 : IntKind.i64.wrap ((d.getD 0 0).toNat : Int) = ((d.getD 0 0).toNat : Int) := w64 (by omega) (by omega)
  have w2 : IntKind.i64.wrap ((d.getD 1 0).toNat : Int) = ((d.getD 1 0).toNat : Int) := w64 (by omega) (by omega)
  have w3 : IntKind.i64.wrap (((d.getD 0 0).toNat : Int) * 256) = ((d.getD 0 0).toNat : Int) * 256 := w64 (by omega) (by omega)
  have w4 := or_bytes (d.getD 0 0) (d.getD 1 0)
  simp -implicitDefEqProofs only [bU, reduceIte, Nat.reduceEqDiff, reduceCtorEq, implies_true, forall_const, eq_self, Nat.reduceAdd, Nat.reduceLT, bne_self_eq_false, bT, eq_self, true_implies, false_implies, forall_const, if_true, if_false, Int.reduceToNat, Nat.reduceSub, Int.reduceLE, h0, h1, v3, w1, w2, w3, w4, Int.reduceToNat, Int.reduceLE, endK, rsC, rsV, resV]
  have e : d.take 2 = [d.getD 0 0, d.getD 1 0] := by
    obtain _ | ⟨x, _ | ⟨y, r⟩⟩ := d
    · simp at hd
    · simp at hd
    · simp
  rw [e, num2]
end
end Go.Vm
/- ReadEdns: the spec's run. -/
namespace Go.Vm
set_option linter.unusedVariables false
set_option linter.unusedSimpArgs false
theorem num2_lt (l : List UInt8) : num (l.take 2) 0 < 65536 := by
  have h := num_lt (l.take 2) 0 0 (by simp)
  have h2 : (l.take 2).length ≤ 2 := by simp; omega
  have h3 : 256 ^ (0 + (l.take 2).length) ≤ 256 ^ 2 := Nat.pow_le_pow_right (by decide) (by omega)
  have h4 : (256 : Nat) ^ 2 = 65536 := by decide
  omega
theorem lit_srcE {t g : Nat} {x : Opt} {L : List Lv} {H : AH} : srcV ⟨⟨t, g, 0, [.ag [.i .i64 x.1, .s x.2]]⟩ :: L, g + 1, H⟩ (.ll t g 2 1) = [eO.v x] ∧ srcC ⟨⟨t, g, 0, [.ag [.i .i64 x.1, .s x.2]]⟩ :: L, g + 1, H⟩ 2 (.ll t g 2 1) := by
  simp [srcV, srcC, Mem.getL, Mem.hasL, lookL, eO, Enc.v]
section
variable {C : Tab}
theorem r_l13Options {d : List UInt8} {H : AH} (hN : T_l02Num C n_spec_l02Num) (hd : d.length ≤ 1099511627776) : Runs C c_spec_l13Options [.s d] H (optR (opsD d) H) := by
  unfold Runs c_spec_l13Options
  simp -implicitDefEqProofs only [bU, reduceIte, Nat.reduceEqDiff, reduceCtorEq, implies_true, forall_const, eq_self, Nat.reduceAdd, Nat.reduceLT, bne_self_eq_false, bT, eq_self, true_implies, false_implies, forall_const, if_true, if_false, Int.reduceToNat, Nat.reduceSub, Int.reduceLE, fillEC, fillE, List.replicate]
  refine exec_loop (fun n e M => ∃ (s : List UInt8) (os : List Opt) (o : AV) (H' : AH) (L : List Lv) (g : Nat), n = s.length ∧ look e 0 = .s s ∧ look e 4 = o ∧ M = ⟨L, g, H'⟩ ∧ Mx H' eO o os ∧ Ext H H' ∧ (∀ i, i ∈ idA o → H.n ≤ i) ∧ os.length + s.length ≤ d.length ∧ opsD d = (opsD s).map fun q => os ++ q) ?_ (n := d.length)
    ⟨d, [], _, _, _, _, rfl, rfl, rfl, rfl, Mn.own (xs := []) (by simp) new_at, .new _ _, fun i hi => by simp [idA, look] at hi; omega, by simp, by simp⟩
  rintro n e M ⟨s, os, o, H', L, g, rfl, q0, q4, rfl, hm, he, hid, hl, hop⟩
  by_cases hs : s = []
  · subst hs
    rw [opsD_nil] at hop
    simp only [Option.map_some, List.append_nil] at hop
    have ho := hm.sl.out
    simp -implicitDefEqProofs only [bU, reduceIte, Nat.reduceEqDiff, reduceCtorEq, implies_true, forall_const, eq_self, Nat.reduceAdd, Nat.reduceLT, bne_self_eq_false, bT, eq_self, true_implies, false_implies, forall_const, if_true, if_false, Int.reduceToNat, Nat.reduceSub, Int.reduceLE, q0, q4, ho, hop, optR, endK, rsC, rsV, resV]
    exact ⟨o, rfl, hm, he, hid⟩
  · have hs0 : 0 < s.length := List.length_pos_iff.2 hs
    by_cases h4 : (s.length : Int) < 4
    · rw [opsD_bad hs (by omega)] at hop
      simp only [Option.map_none] at hop
      simp -implicitDefEqProofs only [bU, reduceIte, Nat.reduceEqDiff, reduceCtorEq, implies_true, forall_const, eq_self, Nat.reduceAdd, Nat.reduceLT, bne_self_eq_false, bT, eq_self, true_implies, false_implies, forall_const, if_true, if_false, Int.reduceToNat, Nat.reduceSub, Int.reduceLE, q0, q4, hs, h4, hop, optR, endK, rsC, rsV, resV]
      exact he
    · have c1 := hN ((s.drop 2).take 2) H' (by simp; omega)
      have c2 := hN (s.take 2) H' (by simp; omega)
      have hw : IntKind.i64.wrap ((s.length : Int) - 4) = (s.length : Int) - 4 := w64 (by omega) (by omega)
      have hlt := num2_lt (s.drop 2)
      have r2 : (2 : Int) ≤ 4 := by decide
      have r4 : (4 : Int) ≤ s.length := by omega
      have r0 : (2 : Int) ≤ s.length := by omega
      by_cases hb : (s.length : Int) - 4 < (num ((s.drop 2).take 2) 0 : Nat)
      · rw [opsD_bad hs (by omega)] at hop
        simp only [Option.map_none] at hop
        simp -implicitDefEqProofs only [bU, reduceIte, Nat.reduceEqDiff, reduceCtorEq, implies_true, forall_const, eq_self, Nat.reduceAdd, Nat.reduceLT, bne_self_eq_false, bT, eq_self, true_implies, false_implies, forall_const, if_true, if_false, Int.reduceToNat, Nat.reduceSub, Int.reduceLE, q0, q4, hs, h4, hw, r2, r4, Int.reduceToNat, Nat.reduceSub, Int.reduceLE, c1, hb, hop, optR, endK, rsC, rsV, resV]
        exact he
      · have hop' := opsD_ok hs (by omega)
        rw [hop', Option.map_map] at hop
        generalize hn : num ((s.drop 2).take 2) 0 = m at *
        have w4 : IntKind.i64.wrap (4 + (m : Int)) = ((4 + m : Nat) : Int) := by rw [w64 (by omega) (by omega)]; omega
        have r5 : (4 : Int) ≤ ((4 + m : Nat) : Int) := by omega
        have r6 : ((4 + m : Nat) : Int) ≤ s.length := by omega
        have r7 : (0 : Int) ≤ ((4 + m : Nat) : Int) := by omega
        have r8 : 4 + m - 4 = m := by omega
        have e1 : opt1 s = (((num (s.take 2) 0 : Nat) : Int), (s.drop 4).take m) := by rw [opt1, hn]
        obtain ⟨p1, o', H2, p2, p3, p4, p5, p6, p7, -⟩ := Mn.ap (z := 2) (by' := 24) hm (lit_srcE (t := 33) (g := g) (x := opt1 s) (L := dropL (keepL [0, 4] L) 33) (H := H')) (by simp; omega)
        rw [e1] at p1 p2 p3
        simp -implicitDefEqProofs only [bU, reduceIte, Nat.reduceEqDiff, reduceCtorEq, implies_true, forall_const, eq_self, Nat.reduceAdd, Nat.reduceLT, bne_self_eq_false, bT, eq_self, true_implies, false_implies, forall_const, if_true, if_false, Int.reduceToNat, Nat.reduceSub, Int.reduceLE, q0, q4, hs, h4, hw, r0, r2, r4, r5, r6, r7, r8, w4, Int.reduceToNat, Nat.reduceSub, Int.reduceLE, Int.le_refl, toNat_nat, List.drop_zero, Nat.sub_zero, c1, c2, hb, fillP, fillC, setPart, fillEC, fillE, List.replicate, List.set, List.take_zero, List.nil_append, List.cons_append, List.drop_succ_cons, List.take_succ_cons, List.append_nil, List.drop_nil, Nat.reduceLeDiff]
        simp -implicitDefEqProofs only [bU, reduceIte, Nat.reduceEqDiff, reduceCtorEq, implies_true, forall_const, eq_self, Nat.reduceAdd, Nat.reduceLT, bne_self_eq_false, p1, p2, p3]
        refine ⟨(s.drop (4 + m)).length, by simp; omega, s.drop (4 + m), os ++ [opt1 s], o', H2, _, _, rfl, by rw [List.take_of_length_le (by simp)], rfl, rfl, ?_, he.put hid p5 p6, fun i hi => ?_, by simp; omega, ?_⟩
        · have : Mn H2 2 o' (os.map eO.v ++ [eO.v (opt1 s)]) := p4
          unfold Mx
          rw [List.map_append]
          exact this
        · rcases p7 i hi with h | h
          · exact hid i h
          · have := he.n; omega
        · rw [hop]
          cases opsD (s.drop (4 + m)) <;> simp
/-- The first OPT record, found behind none. -/
theorem filt_first {xs : List Rr} {i : Nat} (hi : i < xs.length) (h0 : (xs.take i).filter isOpt = []) (ht : xs[i].t = 41) : xs.filter isOpt = xs[i] :: (xs.drop (i + 1)).filter isOpt := by
  have : xs = xs.take i ++ xs[i] :: xs.drop (i + 1) := by
    rw [← List.drop_eq_getElem_cons hi, List.take_append_drop]
  conv => lhs; rw [this]
  rw [List.filter_append, h0, List.nil_append, List.filter_cons, if_pos (by simp [isOpt, ht])]
theorem r_spec_ReadEdns {q a b c : AV} {m : Msg} {H : AH} (hN : T_l13Count C n_spec_l13Count) (hO : T_l13Options C n_spec_l13Options) (h : MsgS H q a b c m) (hs : szM m ≤ 1048576) :
    Runs C c_spec_ReadEdns [mV m.h q a b c] H (RePost (rdE m) H) := by
  unfold Runs c_spec_ReadEdns mV
  unfold szM at hs
  have o1 := h.hq.out
  have o2 := h.ha.out
  have o3 := h.hb.out
  have o4 := h.hc.out
  have k1 := hN a m.an H h.ha (by omega)
  have k2 := hN b m.au H h.hb (by omega)
  have k3 := hN c m.ex H h.hc (by omega)
  have l1 := List.length_filter_le isOpt m.an
  have l2 := List.length_filter_le isOpt m.au
  have w1 : IntKind.i64.wrap (((m.an.filter isOpt).length : Int) + ((m.au.filter isOpt).length : Int)) = ((m.an.filter isOpt).length : Int) + ((m.au.filter isOpt).length : Int) := w64 (by omega) (by omega)
  by_cases c1 : (0 : Int) < ((m.an.filter isOpt).length : Int) + ((m.au.filter isOpt).length : Int)
  · simp -implicitDefEqProofs only [bU, reduceIte, Nat.reduceEqDiff, reduceCtorEq, implies_true, forall_const, eq_self, Nat.reduceAdd, Nat.reduceLT, bne_self_eq_false, bT, eq_self, true_implies, false_implies, forall_const, if_true, if_false, Int.reduceToNat, Nat.reduceSub, Int.reduceLE, bV, Nat.reduceAdd, Nat.reduceLT, Nat.reduceLeDiff, Nat.reduceLeDiff, o1, o2, o3, o4, k1, k2, k3, w1, c1, endK, rsC, rsV, resV]
    rw [rdE, if_pos (.inl (by omega))]
    exact .bad (.refl _)
  by_cases c2 : (1 : Int) < ((m.ex.filter isOpt).length : Int)
  · simp -implicitDefEqProofs only [bU, reduceIte, Nat.reduceEqDiff, reduceCtorEq, implies_true, forall_const, eq_self, Nat.reduceAdd, Nat.reduceLT, bne_self_eq_false, bT, eq_self, true_implies, false_implies, forall_const, if_true, if_false, Int.reduceToNat, Nat.reduceSub, Int.reduceLE, bV, Nat.reduceAdd, Nat.reduceLT, Nat.reduceLeDiff, Nat.reduceLeDiff, o1, o2, o3, o4, k1, k2, k3, w1, c1, c2, endK, rsC, rsV, resV]
    rw [rdE, if_pos (.inr (by omega))]
    exact .bad (.refl _)
  have hrd : rdE m = (match m.ex.filter isOpt with
    | [] => (ed0, 0)
    | r :: _ => match opsD r.d with
      | none => (ed0, 32)
      | some os => if r.o = [0] then (edR r os, 0) else (ed0, 32)) := by rw [rdE, if_neg (by omega)] <;> rfl
  obtain ⟨h1, h2⟩ := h.hc.len
  simp -implicitDefEqProofs only [bU, reduceIte, Nat.reduceEqDiff, reduceCtorEq, implies_true, forall_const, eq_self, Nat.reduceAdd, Nat.reduceLT, bne_self_eq_false, bT, eq_self, true_implies, false_implies, forall_const, if_true, if_false, Int.reduceToNat, Nat.reduceSub, Int.reduceLE, bV, Nat.reduceAdd, Nat.reduceLT, Nat.reduceLeDiff, Nat.reduceLeDiff, o1, o2, o3, o4, k1, k2, k3, w1, c1, c2]
  refine exec_loop (fun n e M => ∃ (i : Nat) (L : List Lv) (g : Nat), i ≤ m.ex.length ∧ n = m.ex.length - i ∧ look e 1 = .la 1 0 0 0 ∧ look e 2 = .la 2 1 0 0 ∧ look e 4 = .i .i64 i ∧ M = ⟨L, g, H⟩ ∧
    keepL [1, 2, 4] L = [⟨2, 1, 0, [.ag [.b false, .i .i64 0, .i .i64 0, .i .i64 0, .ns]]⟩, ⟨1, 0, 0, [mV m.h q a b c]⟩] ∧ (m.ex.take i).filter isOpt = []) ?_ (n := m.ex.length) ⟨0, _, _, by omega, by omega, rfl, rfl, rfl, rfl, rfl, rfl⟩
  rintro n e M ⟨i, L, g, hi, rfl, q1, q2, q4, rfl, hL, hf⟩
  unfold mV at hL
  by_cases hlt : (i : Int) < m.ex.length
  · have hil : i < m.ex.length := by omega
    obtain ⟨b1, b2, b3, b4⟩ := Sx.at' h.hc hil
    simp only [show eR.z = 5 from rfl, show eR.v m.ex[i] = AV.ag [.s (m.ex[i]).o, .i .i64 (m.ex[i]).t, .i .i64 (m.ex[i]).c, .i .i64 (m.ex[i]).ttl, .s (m.ex[i]).d] from rfl] at b1 b3 b4
    have hsn := filt_snoc hil
    have w9 : IntKind.i64.wrap ((i : Int) + 1) = ((i + 1 : Nat) : Int) := by rw [w64 (by omega) (by omega)]; rfl
    have hmem : m.ex[i] ∈ m.ex := List.getElem_mem hil
    have hwd : (m.ex[i]).d.length ≤ 1048576 := by have := tot_mem' (w := w_RR) hmem; simp only [w_RR] at this; omega
    by_cases ht : (m.ex[i]).t = 41
    · rw [filt_first hil hf ht] at hrd
      obtain ⟨v, H', k5, k6⟩ := hO (m.ex[i]).d H (by omega)
      simp only at hrd
      cases hod : opsD (m.ex[i]).d with
      | none =>
        rw [hod] at k6 hrd
        obtain ⟨rfl, k6⟩ := k6
        simp -implicitDefEqProofs only [bU, reduceIte, Nat.reduceEqDiff, reduceCtorEq, implies_true, forall_const, eq_self, Nat.reduceAdd, Nat.reduceLT, bne_self_eq_false, bT, eq_self, true_implies, false_implies, forall_const, if_true, if_false, Int.reduceToNat, Nat.reduceSub, Int.reduceLE, bV, Nat.reduceAdd, Nat.reduceLT, Nat.reduceLeDiff, Nat.reduceLeDiff, q1, q2, q4, h1, h2, hL, hlt, b1, b2, b3, b4, toNat_nat, ht, o4, k5, endK, rsC, rsV, resV]
        rw [hrd]
        exact .bad k6
      | some os =>
        rw [hod] at k6 hrd
        obtain ⟨a', rfl, k7, k8, k9⟩ := k6
        have ho := k7.sl.out
        have hone := k7.sl.one
        by_cases hroot : (m.ex[i]).o = [0]
        · simp -implicitDefEqProofs only [bU, reduceIte, Nat.reduceEqDiff, reduceCtorEq, implies_true, forall_const, eq_self, Nat.reduceAdd, Nat.reduceLT, bne_self_eq_false, bT, eq_self, true_implies, false_implies, forall_const, if_true, if_false, Int.reduceToNat, Nat.reduceSub, Int.reduceLE, bV, Nat.reduceAdd, Nat.reduceLT, Nat.reduceLeDiff, Nat.reduceLeDiff, q1, q2, q4, h1, h2, hL, hlt, b1, b2, b3, b4, toNat_nat, ht, o4, k5, ho, hone, hroot, endK, rsC, rsV, resV]
          simp only [hroot, if_true] at hrd
          rw [hrd]
          exact ⟨a', rfl, k7, k8, k9⟩
        · simp -implicitDefEqProofs only [bU, reduceIte, Nat.reduceEqDiff, reduceCtorEq, implies_true, forall_const, eq_self, Nat.reduceAdd, Nat.reduceLT, bne_self_eq_false, bT, eq_self, true_implies, false_implies, forall_const, if_true, if_false, Int.reduceToNat, Nat.reduceSub, Int.reduceLE, bV, Nat.reduceAdd, Nat.reduceLT, Nat.reduceLeDiff, Nat.reduceLeDiff, q1, q2, q4, h1, h2, hL, hlt, b1, b2, b3, b4, toNat_nat, ht, o4, k5, ho, hone, hroot, endK, rsC, rsV, resV]
          simp only [hroot, if_false] at hrd
          rw [hrd]
          exact .bad k8
    · rw [if_neg ht, List.append_nil] at hsn
      simp -implicitDefEqProofs only [bU, reduceIte, Nat.reduceEqDiff, reduceCtorEq, implies_true, forall_const, eq_self, Nat.reduceAdd, Nat.reduceLT, bne_self_eq_false, bT, eq_self, true_implies, false_implies, forall_const, if_true, if_false, Int.reduceToNat, Nat.reduceSub, Int.reduceLE, bV, Nat.reduceAdd, Nat.reduceLT, Nat.reduceLeDiff, Nat.reduceLeDiff, q1, q2, q4, h1, h2, hL, hlt, b1, b2, b3, b4, toNat_nat, ht, w9, o4]
      exact ⟨m.ex.length - (i + 1), by omega, i + 1, _, _, by omega, rfl, rfl, rfl, rfl, hsn.trans hf⟩
  · have hil : i = m.ex.length := by omega
    rw [hil, List.take_length] at hf
    rw [hf] at hrd
    simp -implicitDefEqProofs only [bU, reduceIte, Nat.reduceEqDiff, reduceCtorEq, implies_true, forall_const, eq_self, Nat.reduceAdd, Nat.reduceLT, bne_self_eq_false, bT, eq_self, true_implies, false_implies, forall_const, if_true, if_false, Int.reduceToNat, Nat.reduceSub, Int.reduceLE, bV, Nat.reduceAdd, Nat.reduceLT, Nat.reduceLeDiff, Nat.reduceLeDiff, q1, q2, q4, h1, h2, hL, hlt, o4, endK, rsC, rsV, resV]
    rw [hrd]
    exact .bad (.refl _)
end
end Go.Vm
