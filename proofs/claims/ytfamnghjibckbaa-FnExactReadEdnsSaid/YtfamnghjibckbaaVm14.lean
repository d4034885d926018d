/- Regions that draw their order: whatever order is drawn, the operations' values are those of the text's order. -/
import Derived.Test.YtfamnghjibckbaaVm13
namespace Go.Vm
set_option linter.unusedVariables false
set_option linter.unusedSimpArgs false
section
variable {κ β : Type} [DecidableEq κ]
/-- The last write of a key by those that have run. -/
def wrt : List (Option κ × β) → Nat → (Nat → Bool) → κ → β → β
  | [], _, _, _, d => d
  | (ds, v) :: r, i, L, t, d => wrt r (i + 1) L t (if L i = true ∧ ds = some t then v else d)
theorem wrt_congr {t : κ} : ∀ {l : List (Option κ × β)} {i : Nat} {L L' : Nat → Bool} {d : β}, (∀ j v, l[j]? = some (some t, v) → L (i + j) = L' (i + j)) → wrt l i L t d = wrt l i L' t d
  | [], _, _, _, _, _ => rfl
  | (ds, v) :: r, i, L, L', d, h => by
    simp only [wrt]
    have h0 : (if L i = true ∧ ds = some t then v else d) = (if L' i = true ∧ ds = some t then v else d) := by
      by_cases e : ds = some t
      · subst e
        have := h 0 v rfl
        rw [Nat.add_zero] at this
        rw [this]
      · rw [if_neg (fun x => e x.2), if_neg (fun x => e x.2)]
    rw [h0]
    exact wrt_congr fun j v' hj => by
      have := h (j + 1) v' (by simpa using hj)
      rwa [show i + 1 + j = i + (j + 1) by omega]
/-- None of them. -/
theorem wrt_none {t : κ} : ∀ {l : List (Option κ × β)} {i : Nat} {L : Nat → Bool} {d : β}, (∀ j v, l[j]? = some (some t, v) → L (i + j) = false) → wrt l i L t d = d
  | [], _, _, _, _ => rfl
  | (ds, v) :: r, i, L, d, h => by
    simp only [wrt]
    have h0 : (if L i = true ∧ ds = some t then v else d) = d := by
      by_cases e : ds = some t
      · subst e
        have := h 0 v rfl
        rw [Nat.add_zero] at this
        simp [this]
      · rw [if_neg (fun x => e x.2)]
    rw [h0]
    exact wrt_none fun j v' hj => by
      have := h (j + 1) v' (by simpa using hj)
      rwa [show i + 1 + j = i + (j + 1) by omega]
/-- The last one. -/
theorem wrt_last {t : κ} {v : β} : ∀ {l : List (Option κ × β)} {i k : Nat} {L : Nat → Bool} {d : β}, l[k]? = some (some t, v) → L (i + k) = true → (∀ j v, k < j → l[j]? = some (some t, v) → L (i + j) = false) → wrt l i L t d = v
  | [], _, _, _, _, h, _, _ => by simp at h
  | (ds, v') :: r, i, 0, L, d, h, hL, hn => by
    simp only [List.getElem?_cons_zero, Option.some.injEq, Prod.mk.injEq] at h
    simp only [wrt]
    rw [if_pos ⟨by simpa using hL, h.1⟩, h.2]
    exact wrt_none fun j v' hj => by
      have := hn (j + 1) v' (by omega) (by simpa using hj)
      rwa [show i + 1 + j = i + (j + 1) by omega]
  | (ds, v') :: r, i, k + 1, L, d, h, hL, hn => by
    simp only [wrt]
    exact wrt_last (by simpa using h) (by rwa [show i + 1 + k = i + (k + 1) by omega]) fun j v' hk hj => by
      have := hn (j + 1) v' (by omega) (by simpa using hj)
      rwa [show i + 1 + j = i + (j + 1) by omega]
/-- All of them but the first ones. -/
theorem wrt_cons_ge {t : κ} {x : Option κ × β} {l : List (Option κ × β)} {i : Nat} {L : Nat → Bool} {d : β} : wrt (x :: l) i L t d = wrt l (i + 1) L t (if L i = true ∧ x.1 = some t then x.2 else d) := rfl
end

def isEf : O → Bool
  | .csb .. | .al .. | .bx .. | .lal .. | .lbx .. | .st .. | .bs .. | .lbs .. | .mk .. | .ap .. | .cp .. | .cl .. | .cv .. | .mkm .. | .mu .. | .dl .. | .rs .. | .nx .. => true
  | _ => false
def inn : O → O
  | .gd _ _ y => y
  | y => y
section
variable {P : Program} {B : Base} {C : Tab} {M M' : Mem} {e : Env}
theorem same_mem {x : O} (h : isEf x = false) : mmO C e M x = M := by
  cases x <;> first | rfl | cases h
theorem same_val {x : O} (h : isEf x = false) (h' : isRd x = false) (hg : isGd x = false) : okO C e M x = okO C e M' x ∧ vlO C e M x = vlO C e M' x := by
  cases x <;> first | exact ⟨rfl, rfl⟩ | exact Bool.noConfusion (show true = false from h) | exact Bool.noConfusion (show true = false from h') | exact Bool.noConfusion (show true = false from hg)
end

/-- One operation of the text's order, as it ran. -/
structure Tr where
  o : O
  on : Bool
  e : Env
  M : Mem
  cf : List Nat
  kp : Bool
def Tr.v (C : Tab) (x : Tr) : AV := if x.on then vlO C x.e x.M (inn x.o) else .u
def Tr.m (C : Tab) (x : Tr) : Mem := if x.on then mmO C x.e x.M (inn x.o) else x.M
def Tr.ok (C : Tab) (x : Tr) : Prop := match x.o with
  | .gd t b y => (look x.e t = .b b ∧ x.on = true ∧ okO C x.e x.M y) ∨ (look x.e t = .b (!b) ∧ x.on = false)
  | y => x.on = true ∧ okO C x.e x.M y
/-- The elder ones that a later one looks back at. -/
def Tr.lg (x : Tr) (i : Nat) (lg : List Lg) : List Lg := if x.on then lgPut x.kp i (inn x.o) x.e x.M lg else lg
def trace (C : Tab) : Nat → List Lg → List PO → Env → Mem → List Tr → Env → Mem → Prop
  | _, _, [], e, M, T, e', M' => T = [] ∧ e' = e ∧ M' = M
  | i, lg, p :: l, e, M, T, e', M' => ∃ x r, T = x :: r ∧ x.o = p.o ∧ x.cf = p.cf ∧ x.kp = p.kp ∧ x.e = e ∧ x.M = M ∧ x.ok C ∧ (x.on = true → cfC C lg (inn x.o) e M x.cf) ∧
      trace C (i + 1) (x.lg i lg) l (putE (dsO x.o) (x.v C) e) (x.m C) r e' M'
section
variable {C : Tab}
theorem inn_ng {x : O} (h : isGd x = false) : inn x = x := by
  cases x <;> first | rfl | cases h
theorem Tr.ok_ng {x : Tr} (h : isGd x.o = false) : x.ok C = (x.on = true ∧ okO C x.e x.M x.o) := by
  unfold Tr.ok
  cases hx : x.o <;> rw [hx] at h <;> first | rfl | cases h
theorem dsO_inn (x : O) : dsO x = dsO (inn x) := by cases x <;> rfl
theorem trace_of {κ : Env → Mem → Prop} : ∀ (l : List PO) (i : Nat) (lg : List Lg) (e : Env) (M : Mem), doPs C i lg l e M κ → ∃ T e' M', trace C i lg l e M T e' M' ∧ κ e' M'
  | [], i, lg, e, M, h => ⟨[], e, M, ⟨rfl, rfl, rfl⟩, h⟩
  | ⟨o, cf, kp⟩ :: l, i, lg, e, M, h => by
    rcases gd_or o with ⟨t, b, y, rfl⟩ | ho
    · simp only [doPs] at h
      obtain ⟨h1, h2, h3⟩ := h
      have hb : ∃ b', look e t = .b b' := by
        cases hl : look e t <;> rw [hl] at h1 <;> first | exact ⟨_, rfl⟩ | cases h1
      obtain ⟨b', hb⟩ := hb
      by_cases hbb : b' = b
      · subst hbb
        obtain ⟨k1, k2, k3⟩ := h2 hb
        obtain ⟨T, e', M', r1, r2⟩ := trace_of l (i + 1) _ _ _ k3
        exact ⟨⟨.gd t b' y, true, e, M, cf, kp⟩ :: T, e', M', ⟨_, T, rfl, rfl, rfl, rfl, rfl, rfl, .inl ⟨hb, rfl, k1⟩, fun _ => k2, r1⟩, r2⟩
      · have hbn : look e t = .b (!b) := by rw [hb]; congr 1; cases b <;> cases b' <;> simp_all
        obtain ⟨T, e', M', r1, r2⟩ := trace_of l (i + 1) _ _ _ (h3 hbn)
        exact ⟨⟨.gd t b y, false, e, M, cf, kp⟩ :: T, e', M', ⟨_, T, rfl, rfl, rfl, rfl, rfl, rfl, .inr ⟨hbn, rfl⟩, fun h => Bool.noConfusion h, r1⟩, r2⟩
    · rw [doPs_ng ho] at h
      obtain ⟨k1, k2, k3⟩ := h
      obtain ⟨T, e', M', r1, r2⟩ := trace_of l (i + 1) _ _ _ k3
      have hi := inn_ng ho
      refine ⟨⟨o, true, e, M, cf, kp⟩ :: T, e', M', ⟨_, T, rfl, rfl, rfl, rfl, rfl, rfl, ?_, fun _ => by simp only; rw [hi]; exact k2, ?_⟩, r2⟩
      · rw [Tr.ok_ng ho]; exact ⟨rfl, k1⟩
      · simp only [Tr.lg, Tr.v, Tr.m, if_true, hi]; exact r1
def ws (C : Tab) (T : List Tr) : List (Option Nat × AV) := T.map fun x => (dsO x.o, x.v C)
def wm (C : Tab) (T : List Tr) : List (Option Unit × Mem) := T.map fun x => (if x.on && isEf (inn x.o) then some () else none, x.m C)
theorem Tr.m_same {x : Tr} (h : (x.on && isEf (inn x.o)) = false) : x.m C = x.M := by
  unfold Tr.m
  cases hon : x.on
  · rfl
  · rw [hon] at h
    exact same_mem (by simpa using h)
/-- What stands ahead of an operation of the text's order, and behind the last one. -/
theorem trace_at : ∀ (l : List PO) (T : List Tr) (i : Nat) (lg : List Lg) (e : Env) (M : Mem) (e' : Env) (M' : Mem), trace C i lg l e M T e' M' →
    T.length = l.length ∧ (∀ t L, (∀ j, i ≤ j → L j = true) → look e' t = wrt (ws C T) i L t (look e t)) ∧ (∀ L, (∀ j, i ≤ j → L j = true) → M' = wrt (wm C T) i L () M) ∧
    ∀ j x, T[j]? = some x → (∃ p, l[j]? = some p ∧ x.o = p.o ∧ x.cf = p.cf ∧ x.kp = p.kp) ∧ x.ok C ∧ (∀ t, look x.e t = wrt (ws C T) i (fun k => decide (k < i + j)) t (look e t)) ∧ x.M = wrt (wm C T) i (fun k => decide (k < i + j)) () M
  | [], T, i, lg, e, M, e', M', h => by
    obtain ⟨rfl, rfl, rfl⟩ := h
    exact ⟨rfl, fun _ _ _ => rfl, fun _ _ => rfl, fun j x hx => by simp at hx⟩
  | p :: l, T, i, lg, e, M, e', M', h => by
    obtain ⟨x, r, rfl, h1, h2, h3, rfl, rfl, h6, h7, h8⟩ := h
    obtain ⟨q1, q2, q3, q4⟩ := trace_at l r (i + 1) _ _ _ e' M' h8
    have step : ∀ t, look (putE (dsO x.o) (x.v C) x.e) t = if dsO x.o = some t then x.v C else look x.e t := fun t => by
      cases hd : dsO x.o with
      | none => simp [putE]
      | some d => simp [putE, look]
    have stepM : x.m C = if (if (x.on && isEf (inn x.o)) = true then some () else none : Option Unit) = some () then x.m C else x.M := by
      by_cases hh : (x.on && isEf (inn x.o)) = true
      · simp [hh]
      · rw [if_neg (by simp [hh])]; exact Tr.m_same (by simpa using hh)
    refine ⟨by simp [q1], fun t L hL => ?_, fun L hL => ?_, fun j y hy => ?_⟩
    · rw [q2 t L fun j hj => hL j (by omega), step]
      simp only [ws, List.map_cons, wrt]
      simp [hL i (Nat.le_refl _)]
    · rw [q3 L fun j hj => hL j (by omega)]
      simp only [wm, List.map_cons, wrt]
      congr 1
      simp only [hL i (Nat.le_refl _), true_and]
      exact stepM
    · cases j with
      | zero =>
        have hxy : x = y := by simpa using hy
        subst hxy
        refine ⟨⟨p, rfl, h1, h2, h3⟩, h6, fun t => (wrt_none fun k v _ => by simp).symm, (wrt_none fun k v _ => by simp).symm⟩
      | succ j =>
        obtain ⟨s1, s2, s3, s4⟩ := q4 j y (by simpa using hy)
        refine ⟨by simpa using s1, s2, fun t => ?_, ?_⟩
        · rw [s3 t, step]
          simp only [ws, List.map_cons, wrt]
          have : decide (i < i + (j + 1)) = true := by simp
          simp only [this, true_and, show i + 1 + j = i + (j + 1) by omega]
        · rw [s4, stepM]
          simp only [wm, List.map_cons, wrt]
          have : decide (i < i + (j + 1)) = true := by simp
          simp only [this, true_and, show i + 1 + j = i + (j + 1) by omega]
end
end Go.Vm
