/- Regions that draw their order: the check, and that it is enough. -/
import Derived.Test.YtfamnghjibckbaaVm14
namespace Go.Vm
set_option linter.unusedVariables false
set_option linter.unusedSimpArgs false
def edg (o : Oper) : List Nat := (o.after.toList.filter fun e => Region.binds .any e).map (·.on)
def mask (acc : List Nat) : List Nat → Nat
  | [] => 0
  | k :: r => (2 ^ k ||| acc.getD k 0) ||| mask acc r
def tmpsO : List Opd → List Nat
  | [] => []
  | .t n :: r => n :: tmpsO r
  | _ :: r => tmpsO r
def looks : O → List Nat
  | .gd t _ y => t :: tmpsO (opds y)
  | y => tmpsO (opds y)
def apart (x y : O) : Bool :=
  (match dsO x with
    | some d => !memN (looks y) d && dsO y != some d
    | none => true) &&
  (match dsO y with
    | some d => !memN (looks x) d
    | none => true)
/-- Two operations whose order is open. -/
def pairOK (i : Nat) (x y : PO) : Bool :=
  apart x.o y.o && !(isEf (inn x.o) && isEf (inn y.o)) && (if (isRd (inn x.o) && isEf (inn y.o)) || (isEf (inn x.o) && isRd (inn y.o)) then memN y.cf i && x.kp else true)
def parRow (m : Nat) (y : PO) : Nat → List PO → Bool
  | _, [] => true
  | i, x :: r => (m.testBit i || pairOK i x y) && parRow m y (i + 1) r
def parGo : Nat → List PO → List Nat → List PO → List Oper → Bool
  | j, pre, acc, y :: l, o :: r => (edg o).all (fun k => decide (k < j)) && parRow (mask acc (edg o)) y 0 pre && parGo (j + 1) (pre ++ [y]) (acc ++ [mask acc (edg o)]) l r
  | _, _, _, [], [] => true
  | _, _, _, _, _ => false
inductive Bef (ops : List Oper) : Nat → Nat → Prop
  | edge {i j : Nat} {o : Oper} : ops[j]? = some o → i ∈ edg o → Bef ops i j
  | step {i k j : Nat} {o : Oper} : ops[j]? = some o → k ∈ edg o → Bef ops i k → Bef ops i j
theorem mask_spec {acc : List Nat} {i : Nat} : ∀ {l : List Nat}, (mask acc l).testBit i = true → ∃ k, k ∈ l ∧ (i = k ∨ (acc.getD k 0).testBit i = true)
  | [], h => by simp [mask] at h
  | k :: r, h => by
    simp only [mask, Nat.testBit_or, Bool.or_eq_true] at h
    rcases h with (h | h) | h
    · rw [Nat.testBit_two_pow] at h
      exact ⟨k, by simp, .inl (by simpa using h : k = i).symm⟩
    · exact ⟨k, by simp, .inr h⟩
    · obtain ⟨k', h1, h2⟩ := mask_spec h
      exact ⟨k', by simp [h1], h2⟩
theorem parRow_spec {m : Nat} {y : PO} : ∀ {l : List PO} {i : Nat}, parRow m y i l = true → ∀ j x, l[j]? = some x → m.testBit (i + j) = true ∨ pairOK (i + j) x y = true
  | [], _, _, j, x, hx => by simp at hx
  | z :: r, i, h, 0, x, hx => by
    simp only [parRow, Bool.and_eq_true, Bool.or_eq_true] at h
    have : z = x := by simpa using hx
    subst this
    exact h.1
  | z :: r, i, h, j + 1, x, hx => by
    simp only [parRow, Bool.and_eq_true] at h
    have := parRow_spec h.2 j x (by simpa using hx)
    rwa [show i + 1 + j = i + (j + 1) by omega] at this
theorem par_spec {all : List PO} {ops : List Oper} : ∀ (l : List PO) (r : List Oper) (j : Nat) (pre : List PO) (acc : List Nat), all = pre ++ l → ops.drop j = r → pre.length = j → acc.length = j → (∀ k, k < j → ∀ i, (acc.getD k 0).testBit i = true → Bef ops i k) →
    parGo j pre acc l r = true → ∀ j' y o, j ≤ j' → all[j']? = some y → ops[j']? = some o → (∀ k, k ∈ edg o → k < j') ∧ ∀ i x, i < j' → all[i]? = some x → Bef ops i j' ∨ pairOK i x y = true
  | [], r, j, pre, acc, ha, _, hp, _, _, _, j', y, o, hj, hy, _ => by
    rw [ha, List.append_nil] at hy
    have := (List.getElem?_eq_some_iff.1 hy).1
    omega
  | y0 :: l, [], j, pre, acc, _, _, _, _, _, hg, _, _, _, _, _, _ => by simp [parGo] at hg
  | y0 :: l, o0 :: r, j, pre, acc, ha, hr, hp, hl, hacc, hg, j', y, o, hj, hy, ho => by
    simp only [parGo, Bool.and_eq_true] at hg
    obtain ⟨⟨g1, g2⟩, g3⟩ := hg
    have ho0 : ops[j]? = some o0 := by
      have := congrArg (·[0]?) hr
      simpa using this
    have hk : ∀ k, k ∈ edg o0 → k < j := fun k hk => by simpa using List.all_eq_true.1 g1 k hk
    have hm : ∀ i, (mask acc (edg o0)).testBit i = true → Bef ops i j := fun i hi => by
      obtain ⟨k, k1, k2⟩ := mask_spec hi
      rcases k2 with rfl | k2
      · exact .edge ho0 k1
      · exact .step ho0 k1 (hacc k (hk k k1) i k2)
    by_cases e : j' = j
    · subst e
      have e1 : y0 = y := by
        rw [ha, List.getElem?_append_right (by omega), hp, Nat.sub_self] at hy
        simpa using hy
      have e2 : o0 = o := by rw [ho0] at ho; exact Option.some.inj ho
      subst e1 e2
      refine ⟨hk, fun i x hi hx => ?_⟩
      rw [ha, List.getElem?_append_left (by omega)] at hx
      have := parRow_spec g2 i x hx
      rw [Nat.zero_add] at this
      exact this.imp_left (hm i)
    · refine par_spec l r (j + 1) (pre ++ [y0]) (acc ++ [mask acc (edg o0)]) (by rw [ha]; simp) ?_ (by simp [hp]) (by simp [hl]) ?_ g3 j' y o (by omega) hy ho
      · have := congrArg (List.drop 1) hr
        simpa [List.drop_drop] using this
      · intro k hk' i hi
        by_cases ek : k = j
        · subst ek
          have : (acc ++ [mask acc (edg o0)]).getD k 0 = mask acc (edg o0) := by simp [← hl]
          rw [this] at hi
          exact hm i hi
        · have : (acc ++ [mask acc (edg o0)]).getD k 0 = acc.getD k 0 := by
            simp only [List.getD]
            rw [List.getElem?_append_left (by omega)]
          rw [this] at hi
          exact hacc k (by omega) i hi
section
variable {C : Tab}
/-- What was checked at an operation of the text's order. -/
theorem trace_cf : ∀ (l : List PO) (T : List Tr) (i : Nat) (lg : List Lg) (e : Env) (M : Mem) (e' : Env) (M' : Mem), trace C i lg l e M T e' M' →
    ∀ j x, T[j]? = some x → x.on = true → ∃ lg', cfC C lg' (inn x.o) x.e x.M x.cf ∧ (∀ k y, k < j → T[k]? = some y → y.on = true → y.kp = true → lgAt lg' (i + k) = some ⟨i + k, inn y.o, y.e, y.M⟩) ∧ (∀ m, m < i → lgAt lg' m = lgAt lg m)
  | [], T, i, lg, e, M, e', M', h, j, x, hx, _ => by
    obtain ⟨rfl, -, -⟩ := h
    simp at hx
  | p :: l, T, i, lg, e, M, e', M', h, j, x, hx, hon => by
    obtain ⟨y, r, rfl, h1, h2, h3, rfl, rfl, h6, h7, h8⟩ := h
    cases j with
    | zero =>
      have : y = x := by simpa using hx
      subst this
      exact ⟨lg, h7 hon, fun k z hk => by omega, fun _ _ => rfl⟩
    | succ j =>
      obtain ⟨lg', q1, q2, q3⟩ := trace_cf l r (i + 1) _ _ _ e' M' h8 j x (by simpa using hx) hon
      refine ⟨lg', q1, fun k z hk hz hzo hzk => ?_, fun m hm => ?_⟩
      · cases k with
        | zero =>
          have : y = z := by simpa using hz
          subst this
          rw [Nat.add_zero, q3 i (by omega)]
          simp [Tr.lg, lgPut, hzo, hzk, lgAt]
        | succ k =>
          have := q2 k z (by omega) (by simpa using hz) hzo hzk
          rwa [show i + 1 + k = i + (k + 1) by omega] at this
      · rw [q3 m (by omega)]
        unfold Tr.lg lgPut
        split
        · split
          · simp only [lgAt]
            rw [if_neg (by omega)]
          · rfl
        · rfl
theorem cf_mem {lg : List Lg} {o : O} {e : Env} {M : Mem} {k : Nat} {x : Lg} (hx : lgAt lg k = some x) : ∀ {cf : List Nat}, cfC C lg o e M cf → memN cf k = true →
    (isRd o = true → okO C e x.M o ∧ vlO C e x.M o = vlO C e M o) ∧ (isRd o = false → okO C x.e (mmO C e M o) x.o ∧ vlO C x.e (mmO C e M o) x.o = vlO C x.e x.M x.o)
  | [], _, hm => by cases hm
  | i :: r, h, hm => by
    simp only [cfC] at h
    simp only [memN] at hm
    by_cases e1 : i = k
    · subst e1
      have h1 := h.1
      rw [hx] at h1
      simp only at h1
      refine ⟨fun hr => ?_, fun hr => ?_⟩
      · rw [if_pos hr] at h1; exact h1
      · rw [if_neg (by simp [hr])] at h1; exact h1
    · rw [if_neg e1] at hm
      exact cf_mem hx h.2 hm
end
theorem memN_iff {l : List Nat} {n : Nat} : memN l n = true ↔ n ∈ l := by
  induction l with
  | nil => simp [memN]
  | cons m r ih =>
    simp only [memN]
    by_cases e : m = n
    · simp [e]
    · rw [if_neg e, ih]
      simp only [List.mem_cons]
      constructor
      · exact .inr
      · rintro (h | h)
        · exact absurd h.symm e
        · exact h
theorem mem_tmpsO {t : Nat} : ∀ {l : List Opd}, Opd.t t ∈ l → t ∈ tmpsO l
  | [], h => by cases h
  | x :: r, h => by
    rcases List.mem_cons.1 h with rfl | h
    · simp [tmpsO]
    · have := mem_tmpsO h
      cases x <;> simp [tmpsO, this]
theorem ef_not_rd {x : O} (h : isEf x = true) : isRd x = false := by
  cases x <;> first | rfl | exact Bool.noConfusion (show false = true from h)
theorem pair_apart {i : Nat} {x y : PO} (h : pairOK i x y = true) : (∀ d, dsO x.o = some d → ¬ d ∈ looks y.o ∧ dsO y.o ≠ some d) ∧ (∀ d, dsO y.o = some d → ¬ d ∈ looks x.o) := by
  simp only [pairOK, Bool.and_eq_true, apart] at h
  obtain ⟨⟨⟨h1, h2⟩, -⟩, -⟩ := h
  refine ⟨fun d hd => ?_, fun d hd => ?_⟩
  · rw [hd] at h1
    simp only [Bool.and_eq_true, Bool.not_eq_true', bne_iff_ne] at h1
    exact ⟨fun hm => (by rw [memN_iff.2 hm] at h1; cases h1.1), h1.2⟩
  · rw [hd] at h2
    simp only [Bool.not_eq_true'] at h2
    exact fun hm => by rw [memN_iff.2 hm] at h2; cases h2
theorem pair_ef {i : Nat} {x y : PO} (h : pairOK i x y = true) : ¬ (isEf (inn x.o) = true ∧ isEf (inn y.o) = true) := by
  simp only [pairOK, Bool.and_eq_true, Bool.not_eq_true'] at h
  rintro ⟨h1, h2⟩
  rw [h1, h2] at h
  cases h.1.2
theorem pair_cf {i : Nat} {x y : PO} (h : pairOK i x y = true) (hr : (isRd (inn x.o) = true ∧ isEf (inn y.o) = true) ∨ (isEf (inn x.o) = true ∧ isRd (inn y.o) = true)) : memN y.cf i = true ∧ x.kp = true := by
  simp only [pairOK, Bool.and_eq_true] at h
  have h3 := h.2
  rw [if_pos (by rcases hr with ⟨h1, h2⟩ | ⟨h1, h2⟩ <;> simp [h1, h2])] at h3
  simpa using h3
end Go.Vm
