/- Regions that run in their text's order. -/
import Derived.Test.YtfamnghjibckbaaVm12
import Derived.Orders
namespace Go.Vm
set_option linter.unusedVariables false
set_option linter.unusedSimpArgs false
structure StR (B : Base) (N : Nat) (ρ : Rn) (e : Env) (M : Mem) (a : Act) (w : World) : Prop where
  env : ∀ t, VE ρ (look e t) (a.tmps.getD t undef)
  mem : MemR B ρ M w
  dfr : a.defers = []
  sz : N ≤ a.tmps.size
def Ex (B : Base) (N : Nat) (e : Env) (M : Mem) (a : Act) (w : World) : Prop := ∃ ρ, StR B N ρ e M a w
def dOk (N : Nat) : Option Nat → Bool
  | some d => decide (d < N)
  | none => true
def okD (N : Nat) : O → Bool
  | .gd _ _ y => sup y && dOk N (dsO y)
  | y => sup y && dOk N (dsO y)
def isGd : O → Bool
  | .gd .. => true
  | _ => false
section
variable {P : Program} {B : Base} {C : Tab} {ρ : Rn} {M : Mem} {w : World} {e : Env} {a : Act} {o : Oper} {N : Nat}
theorem getD_set (tmps : Array Value) (d t : Nat) (v : Value) (h : d < tmps.size) : (tmps.setIfInBounds d v).getD t undef = if d = t then v else tmps.getD t undef := by
  simp only [Array.getD_eq_getD_getElem?, Array.getElem?_setIfInBounds]
  by_cases e : d = t
  · subst e; simp [h]
  · simp [e]
/-- A place written. -/
theorem StR.put {ρ' : Rn} {M' : Mem} {w' : World} {ds : Option Nat} {x : AV} {v : Value} (h : StR B N ρ e M a w) (hd : dOk N ds = true) (hl : ρ.LeL ρ') (hv : VE ρ' x v) (hm : MemR B ρ' M' w') : StR B N ρ' (putE ds x e) M' (a.put ds v) w' := by
  cases ds with
  | none => exact ⟨fun t => (h.env t).mono hl, hm, h.dfr, h.sz⟩
  | some d =>
    have hlt : d < N := by simpa [dOk] using hd
    have hsz := h.sz
    refine ⟨fun t => ?_, hm, h.dfr, by simpa [Act.put] using h.sz⟩
    simp only [Act.put, putE, look]
    rw [getD_set _ _ _ _ (by omega)]
    by_cases ht : d = t
    · rw [if_pos ht, if_pos ht]; exact hv
    · rw [if_neg ht, if_neg ht]; exact (h.env t).mono hl
theorem chkO_ng {x : O} (h : isGd x = false) : chkO P x o = (o.guard.isNone && o.dst == dsO x && chkOp P x o.op) := by
  cases x <;> first | rfl | cases h
theorem doOs_ng {x : O} {l : List O} {κ : Env → Mem → Prop} (h : isGd x = false) : doOs C (x :: l) e M κ = (okO C e M x ∧ doOs C l (putE (dsO x) (vlO C e M x) e) (mmO C e M x) κ) := by
  cases x <;> first | rfl | cases h
theorem doPs_ng {x : O} {i : Nat} {lg : List Lg} {cf : List Nat} {kp : Bool} {l : List PO} {κ : Env → Mem → Prop} (h : isGd x = false) :
    doPs C i lg (⟨x, cf, kp⟩ :: l) e M κ = (okO C e M x ∧ cfC C lg x e M cf ∧ doPs C (i + 1) (lgPut kp i x e M lg) l (putE (dsO x) (vlO C e M x) e) (mmO C e M x) κ) := by
  cases x <;> first | rfl | cases h
theorem okD_ng {x : O} (h : isGd x = false) : okD N x = (sup x && dOk N (dsO x)) := by
  cases x <;> first | rfl | cases h
theorem gd_or (x : O) : (∃ t b y, x = .gd t b y) ∨ isGd x = false := by
  cases x <;> first | exact .inl ⟨_, _, _, rfl⟩ | exact .inr rfl
theorem OE_of (hE : ∀ t, VE ρ (look e t) (a.tmps.getD t undef)) (hm : MemR B ρ M w) (hG : B.G = P.globals.size) (l : List Opd) : OE P ρ e a l :=
  fun _ _ _ hc => chkX_sound hm hG hc fun t _ => hE t
/-- One operation. -/
theorem step_ok {x : O} {next : Act → World → Prop} {Q : Exit → Act → World → Prop} (hC : TabOK P C) (hG : B.G = P.globals.size) (hs : sup x = true) (hd : dOk N (dsO x) = true) (hds : o.dst = dsO x) (hc : chkOp P x o.op = true) (hk : okO C e M x) (h : StR B N ρ e M a w)
    (hn : ∀ a' w', Ex B N (putE (dsO x) (vlO C e M x) e) (mmO C e M x) a' w' → next a' w') : o.wp P a w next Q := by
  refine sim_op hC hG hs hc hk (OE_of h.env h.mem hG _) h.mem next Q fun v w' ⟨ρ', h1, h2, h3⟩ => hn _ _ ⟨ρ', ?_⟩
  rw [hds]
  exact h.put hd h1 h2 h3
theorem yield_of {ops : Array Oper} {tmps : Array Value} {j t : Nat} {p : Oper} {b : Bool} (hp : ops[j]? = some p) (hd : p.dst = some t) (hv : tmps.getD t undef = .bool b) : yielded ops tmps j = some b := by
  have ht : tmps[t]? = some (.bool b) := by
    rw [Array.getD_eq_getD_getElem?] at hv
    cases hx : tmps[t]? with
    | none => rw [hx] at hv; cases hv
    | some y => rw [hx] at hv; exact congrArg some hv
  simp [yielded, hp, hd, ht]
/-- A guard's word. -/
theorem wanted_gd {ops : Array Oper} {t : Nat} {b : Bool} {y : O} (hc : chkO P (.gd t b y) o = true) (hg : chkG ops (.gd t b y) o = true) {b' : Bool} (hv : a.tmps.getD t undef = .bool b') : Region.wanted o (yielded ops a.tmps) = (b' == b) := by
  simp only [chkO, Bool.and_eq_true, beq_iff_eq] at hc
  obtain ⟨⟨⟨h1, h2⟩, h3⟩, -⟩ := hc
  unfold chkG at hg
  cases hgd : o.guard with
  | none => rw [hgd] at h1; cases h1
  | some jb =>
    obtain ⟨j, b2⟩ := jb
    rw [hgd] at h1 hg
    have hb : b = b2 := by simpa using h1
    subst hb
    simp only at hg
    cases hp : ops[j]? with
    | none => rw [hp] at hg; cases hg
    | some p =>
      rw [hp] at hg
      have hd : p.dst = some t := by simpa using hg
      simp only [Region.wanted, hgd, yield_of hp hd hv]
      cases b <;> cases b' <;> rfl
theorem wanted_ng {ops : Array Oper} {x : O} (hx : isGd x = false) (hc : chkO P x o = true) : Region.wanted o (yielded ops a.tmps) = true := by
  rw [chkO_ng hx] at hc
  simp only [Bool.and_eq_true] at hc
  have : o.guard = none := by simpa using hc.1.1
  simp [Region.wanted, this]
theorem chkO_in {t : Nat} {b : Bool} {y : O} (hc : chkO P (.gd t b y) o = true) : o.dst = dsO y ∧ chkOp P y o.op = true := by
  simp only [chkO, Bool.and_eq_true, beq_iff_eq] at hc
  exact ⟨hc.1.1.2, hc.1.2⟩
theorem bool_of (h : StR B N ρ e M a w) {t : Nat} (hb : (look e t).isB = true) : ∃ b, look e t = .b b ∧ a.tmps.getD t undef = .bool b := (h.env t).bool hb
def okDs (N : Nat) : List O → Bool
  | [] => true
  | x :: r => okD N x && okDs N r
theorem text_go {ops : Array Oper} {Q : Exit → Act → World → Prop} {κ : Env → Mem → Prop} (hC : TabOK P C) (hG : B.G = P.globals.size) (hQ : ∀ e M a w, κ e M → Ex B N e M a w → Q .normal a w) :
    ∀ (l : List O) (i : Nat) (e : Env) (M : Mem) (a : Act) (w : World), chkOs P ops l (ops.toList.drop i) = true → okDs N l = true → doOs C l e M κ → Ex B N e M a w → wpOps P ops Q (List.range' i l.length) a w
  | [], i, e, M, a, w, _, _, hk, h => hQ e M a w hk h
  | x :: l, i, e, M, a, w, hc, hd, hk, ⟨ρ, h⟩ => by
    cases hdr : ops.toList.drop i with
    | nil => rw [hdr] at hc; cases hc
    | cons o r =>
      rw [hdr] at hc
      simp only [chkOs, Bool.and_eq_true] at hc
      simp only [okDs, Bool.and_eq_true] at hd
      obtain ⟨⟨c1, c2⟩, c3⟩ := hc
      have hget : ops[i]? = some o := by
        have : ops.toList[i]? = some o := by
          have := congrArg (·[0]?) hdr
          simpa using this
        simpa using this
      have hrest : ops.toList.drop (i + 1) = r := by
        have := congrArg (List.drop 1) hdr
        simpa [List.drop_drop] using this
      have ih := text_go (ops := ops) hC hG hQ l (i + 1)
      rw [hrest] at ih
      rw [List.length_cons, List.range'_succ, wpOps_cons]
      unfold wpOp
      rw [hget]
      simp only
      rcases gd_or x with ⟨t, b, y, rfl⟩ | hx
      · simp only [doOs] at hk
        obtain ⟨k1, k2, k3⟩ := hk
        obtain ⟨b', hb1, hb2⟩ := bool_of h k1
        have hw := wanted_gd c1 c2 hb2
        obtain ⟨d1, d2⟩ := chkO_in c1
        have hs : sup y = true ∧ dOk N (dsO y) = true := by simpa [okD] using hd.1
        by_cases hbb : b' = b
        · subst hbb
          rw [if_pos (by rw [hw]; simp)]
          obtain ⟨k4, k5⟩ := k2 hb1
          exact .inl (step_ok hC hG hs.1 hs.2 d1 d2 k4 h fun a' w' hx => ih _ _ a' w' c3 hd.2 k5 hx)
        · rw [if_neg (by rw [hw]; simpa using hbb)]
          have hbn : look e t = .b (!b) := by rw [hb1]; congr 1; cases b <;> cases b' <;> simp_all
          rw [d1]
          exact ih _ _ _ w c3 hd.2 (k3 hbn) ⟨ρ, h.put hs.2 (.refl ρ) trivial h.mem⟩
      · rw [if_pos (wanted_ng hx c1)]
        rw [doOs_ng hx] at hk
        rw [chkO_ng hx] at c1
        simp only [Bool.and_eq_true, beq_iff_eq] at c1
        rw [okD_ng hx] at hd
        have hs : sup x = true ∧ dOk N (dsO x) = true := by simpa using hd.1
        exact .inl (step_ok hC hG hs.1 hs.2 c1.1.2 c1.2 hk.1 h fun a' w' hx => ih _ _ a' w' c3 hd.2 hk.2 hx)
theorem chkOs_len {ops : Array Oper} : ∀ {l : List O} {m : List Oper}, chkOs P ops l m = true → l.length = m.length
  | [], [], _ => rfl
  | x :: l, o :: m, h => by
    simp only [chkOs, Bool.and_eq_true] at h
    simp [chkOs_len h.2]
  | [], _ :: _, h => by simp [chkOs] at h
  | _ :: _, [], h => by simp [chkOs] at h
/-- A region in its text's order. -/
theorem text_ok {id : Nat} {ops : Array Oper} {Q : Exit → Act → World → Prop} {κ : Env → Mem → Prop} {l : List O} (hC : TabOK P C) (hG : B.G = P.globals.size) (hQ : ∀ e M a w, κ e M → Ex B N e M a w → Q .normal a w)
    (hc : chkOs P ops l ops.toList = true) (hd : okDs N l = true) (hk : doOs C l e M κ) (h : Ex B N e M a w) : (Code.region id ops false).wp P Q a w := by
  have := text_go hC hG hQ l 0 e M a w (by simpa using hc) hd hk h
  rw [chkOs_len hc, Array.length_toList] at this
  refine wp_region ?_
  rw [List.range_eq_range']
  exact this
end
end Go.Vm
