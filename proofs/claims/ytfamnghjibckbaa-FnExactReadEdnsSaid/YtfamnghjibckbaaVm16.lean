/- Regions that draw their order: soundness. -/
import Derived.Test.YtfamnghjibckbaaVm15
namespace Go.Vm
set_option linter.unusedVariables false
set_option linter.unusedSimpArgs false
section
variable {P : Program}
theorem chkOs_get {ops : Array Oper} : ∀ {l : List O} {m : List Oper}, chkOs P ops l m = true → ∀ (j : Nat) (x : O), l[j]? = some x → ∃ o, m[j]? = some o ∧ chkO P x o = true ∧ chkG ops x o = true
  | [], _, _, j, x, hx => by simp at hx
  | y :: l, o :: m, h, 0, x, hx => by
    simp only [chkOs, Bool.and_eq_true] at h
    have : y = x := by simpa using hx
    subst this
    exact ⟨o, rfl, h.1.1, h.1.2⟩
  | y :: l, o :: m, h, j + 1, x, hx => by
    simp only [chkOs, Bool.and_eq_true] at h
    obtain ⟨o', h1, h2⟩ := chkOs_get h.2 j x (by simpa using hx)
    exact ⟨o', by simpa using h1, h2⟩
  | _ :: _, [], h, _, _, _ => by simp [chkOs] at h
theorem okDs_get {N : Nat} : ∀ {l : List O}, okDs N l = true → ∀ (j : Nat) (x : O), l[j]? = some x → okD N x = true
  | [], _, j, x, hx => by simp at hx
  | y :: l, h, 0, x, hx => by
    simp only [okDs, Bool.and_eq_true] at h
    have : y = x := by simpa using hx
    exact this ▸ h.1
  | y :: l, h, j + 1, x, hx => by
    simp only [okDs, Bool.and_eq_true] at h
    exact okDs_get h.2 j x (by simpa using hx)
end
def Lf (listed : Array Bool) (k : Nat) : Bool := listed.getD k false
theorem Lf_set {listed : Array Bool} {j k : Nat} (h : j < listed.size) : Lf (listed.setIfInBounds j true) k = if j = k then true else Lf listed k := by
  simp only [Lf, Array.getD_eq_getD_getElem?, Array.getElem?_setIfInBounds]
  by_cases e : j = k
  · subst e; simp [h]
  · simp [e]
/-- A region, checked, with its run in the text's order. -/
structure Dr (P : Program) (C : Tab) (N : Nat) (ops : Array Oper) (l : List PO) (T : List Tr) (e0 : Env) (M0 : Mem) (e' : Env) (M' : Mem) : Prop where
  tr : trace C 0 [] l e0 M0 T e' M'
  chk : chkOs P ops (l.map (·.o)) ops.toList = true
  okd : okDs N (l.map (·.o)) = true
  par : parGo 0 [] [] l ops.toList = true
structure Inv (B : Base) (C : Tab) (N : Nat) (ops : Array Oper) (T : List Tr) (e0 : Env) (M0 : Mem) (listed : Array Bool) (a : Act) (w : World) : Prop where
  sz : listed.size = ops.size
  cl : ∀ j o, ops.toList[j]? = some o → Lf listed j = true → ∀ k, k ∈ edg o → Lf listed k = true
  st : ∃ ρ, (∀ t, VE ρ (wrt (ws C T) 0 (Lf listed) t (look e0 t)) (a.tmps.getD t undef)) ∧ MemR B ρ (wrt (wm C T) 0 (Lf listed) () M0) w ∧ a.defers = [] ∧ N ≤ a.tmps.size
section
variable {P : Program} {B : Base} {C : Tab} {N : Nat} {ops : Array Oper} {l : List PO} {T : List Tr} {e0 e' : Env} {M0 M' : Mem} {listed : Array Bool} {a : Act} {w : World}
theorem ws_get {j d : Nat} {v : AV} (h : (ws C T)[j]? = some (some d, v)) : ∃ x, T[j]? = some x ∧ dsO x.o = some d ∧ x.v C = v := by
  simp only [ws, List.getElem?_map] at h
  cases hx : T[j]? with
  | none => rw [hx] at h; cases h
  | some x =>
    rw [hx] at h
    simp only [Option.map_some, Option.some.injEq, Prod.mk.injEq] at h
    exact ⟨x, rfl, h.1, h.2⟩
theorem wm_get {j : Nat} {v : Mem} (h : (wm C T)[j]? = some (some (), v)) : ∃ x, T[j]? = some x ∧ (x.on && isEf (inn x.o)) = true ∧ x.m C = v := by
  simp only [wm, List.getElem?_map] at h
  cases hx : T[j]? with
  | none => rw [hx] at h; cases h
  | some x =>
    rw [hx] at h
    simp only [Option.map_some, Option.some.injEq, Prod.mk.injEq] at h
    refine ⟨x, rfl, ?_, h.2⟩
    by_cases he : (x.on && isEf (inn x.o)) = true
    · exact he
    · rw [if_neg he] at h; cases h.1
/-- An operation's facts. -/
theorem Dr.at (D : Dr P C N ops l T e0 M0 e' M') {j : Nat} {x : Tr} (hx : T[j]? = some x) :
    ∃ p o, l[j]? = some p ∧ ops.toList[j]? = some o ∧ x.o = p.o ∧ x.cf = p.cf ∧ x.kp = p.kp ∧ chkO P x.o o = true ∧ chkG ops x.o o = true ∧ okD N x.o = true ∧ x.ok C ∧
      (∀ t, look x.e t = wrt (ws C T) 0 (fun k => decide (k < j)) t (look e0 t)) ∧ x.M = wrt (wm C T) 0 (fun k => decide (k < j)) () M0 ∧ (∀ k, k ∈ edg o → k < j) := by
  obtain ⟨-, -, -, q4⟩ := trace_at l T 0 [] e0 M0 e' M' D.tr
  obtain ⟨⟨p, h1, h2, h3, h4⟩, h5, h6, h7⟩ := q4 j x hx
  have hm : (l.map (·.o))[j]? = some x.o := by simp [h1, h2]
  obtain ⟨o, k1, k2, k3⟩ := chkOs_get D.chk j x.o hm
  refine ⟨p, o, h1, k1, h2, h3, h4, k2, k3, okDs_get D.okd j x.o hm, h5, ?_, ?_, ?_⟩
  · simpa using h6
  · simpa using h7
  · exact (par_spec l ops.toList 0 [] [] rfl rfl rfl rfl (fun k hk => by omega) D.par j p o (by omega) h1 k1).1
theorem Dr.pair (D : Dr P C N ops l T e0 M0 e' M') {i j : Nat} {x y : Tr} (hx : T[i]? = some x) (hy : T[j]? = some y) (hij : i < j) : Bef ops.toList i j ∨ ∃ p q, l[i]? = some p ∧ l[j]? = some q ∧ x.o = p.o ∧ x.kp = p.kp ∧ y.o = q.o ∧ y.cf = q.cf ∧ pairOK i p q = true := by
  obtain ⟨p, o, h1, h2, h3, h4, h5, -⟩ := D.at hx
  obtain ⟨q, o', k1, k2, k3, k4, k5, -⟩ := D.at hy
  refine ((par_spec l ops.toList 0 [] [] rfl rfl rfl rfl (fun k hk => by omega) D.par j q o' (by omega) k1 k2).2 i p hij h1).imp_right fun h => ⟨p, q, h1, k1, h3, h5, k3, k4, h⟩
theorem bef_lf (cl : ∀ j o, ops.toList[j]? = some o → Lf listed j = true → ∀ k, k ∈ edg o → Lf listed k = true) {i j : Nat} (h : Bef ops.toList i j) : (∀ o, ops.toList[j]? = some o → ∀ k, k ∈ edg o → Lf listed k = true) → Lf listed i = true := by
  induction h with
  | edge h1 h2 => exact fun h => h _ h1 _ h2
  | step h1 h2 _ ih => exact fun h => ih fun o ho => cl _ o ho (h _ h1 _ h2)
theorem ready_facts (sz : listed.size = ops.size) {j : Nat} (h : j ∈ Region.ready .any ops listed) : ∃ o, ops[j]? = some o ∧ j < listed.size ∧ Lf listed j = false ∧ ∀ k, k ∈ edg o → Lf listed k = true := by
  obtain ⟨h1, o, h2, h3⟩ := mem_ready.1 h
  have hlt : j < ops.size := (Array.getElem?_eq_some_iff.1 h2).1
  refine ⟨o, h2, by omega, ?_, fun k hk => ?_⟩
  · simp only [Lf, Array.getD_eq_getD_getElem?] at h1 ⊢
    rw [Array.getElem?_eq_getElem (by omega)] at h1 ⊢
    exact h1
  · obtain ⟨e, he, rfl⟩ := List.mem_map.1 hk
    obtain ⟨he1, he2⟩ := List.mem_filter.1 he
    exact h3 e (by simpa using he1) he2
/-- The order to the next one is open, or it is that of the text. -/
theorem Dr.free (D : Dr P C N ops l T e0 M0 e' M') (cl : ∀ j o, ops.toList[j]? = some o → Lf listed j = true → ∀ k, k ∈ edg o → Lf listed k = true) {j : Nat} {x : Tr} (hx : T[j]? = some x) (hl : Lf listed j = false)
    (hr : ∀ o, ops.toList[j]? = some o → ∀ k, k ∈ edg o → Lf listed k = true) {k : Nat} {y : Tr} (hy : T[k]? = some y) (hk : Lf listed k ≠ decide (k < j)) :
    (k < j ∧ Lf listed k = false ∧ ∃ p q, l[k]? = some p ∧ l[j]? = some q ∧ y.o = p.o ∧ y.kp = p.kp ∧ x.o = q.o ∧ x.cf = q.cf ∧ pairOK k p q = true) ∨
    (j < k ∧ Lf listed k = true ∧ ∃ p q, l[j]? = some p ∧ l[k]? = some q ∧ x.o = p.o ∧ x.kp = p.kp ∧ y.o = q.o ∧ y.cf = q.cf ∧ pairOK j p q = true) := by
  by_cases h1 : k < j
  · have h2 : Lf listed k = false := by cases hh : Lf listed k <;> simp_all
    refine .inl ⟨h1, h2, (D.pair hy hx h1).resolve_left fun hb => ?_⟩
    rw [bef_lf cl hb hr] at h2; cases h2
  · by_cases h2 : k = j
    · subst h2; rw [hl] at hk; simp at hk
    · have h3 : Lf listed k = true := by cases hh : Lf listed k <;> simp_all
      refine .inr ⟨by omega, h3, (D.pair hx hy (by omega)).resolve_left fun hb => ?_⟩
      rw [bef_lf cl hb fun o ho => cl k o ho h3] at hl; cases hl
/-- What an operation looks at is what the text's order says. -/
theorem Dr.env (D : Dr P C N ops l T e0 M0 e' M') (cl : ∀ j o, ops.toList[j]? = some o → Lf listed j = true → ∀ k, k ∈ edg o → Lf listed k = true) {j : Nat} {x : Tr} (hx : T[j]? = some x) (hl : Lf listed j = false)
    (hr : ∀ o, ops.toList[j]? = some o → ∀ k, k ∈ edg o → Lf listed k = true) {t : Nat} (ht : t ∈ looks x.o) : wrt (ws C T) 0 (Lf listed) t (look e0 t) = look x.e t := by
  obtain ⟨p, o, -, -, -, -, -, -, -, -, -, h1, -⟩ := D.at hx
  rw [h1 t]
  refine wrt_congr fun k v hk => ?_
  rw [Nat.zero_add]
  obtain ⟨y, hy, hd, -⟩ := ws_get hk
  by_cases e : Lf listed k = decide (k < j)
  · exact e
  · rcases D.free cl hx hl hr hy e with ⟨-, -, p, q, -, -, e1, -, e2, -, hp⟩ | ⟨-, -, p, q, -, -, e1, -, e2, -, hp⟩
    · rw [e1] at hd; rw [e2] at ht
      exact absurd ht ((pair_apart hp).1 t hd).1
    · rw [e2] at hd; rw [e1] at ht
      exact absurd ht ((pair_apart hp).2 t hd)
/-- An operation that changes memory finds the memory of the text's order. -/
theorem Dr.memE (D : Dr P C N ops l T e0 M0 e' M') (cl : ∀ j o, ops.toList[j]? = some o → Lf listed j = true → ∀ k, k ∈ edg o → Lf listed k = true) {j : Nat} {x : Tr} (hx : T[j]? = some x) (hl : Lf listed j = false)
    (hr : ∀ o, ops.toList[j]? = some o → ∀ k, k ∈ edg o → Lf listed k = true) (he : isEf (inn x.o) = true) : wrt (wm C T) 0 (Lf listed) () M0 = x.M := by
  obtain ⟨p, o, -, -, -, -, -, -, -, -, -, -, h1, -⟩ := D.at hx
  rw [h1]
  refine wrt_congr fun k v hk => ?_
  rw [Nat.zero_add]
  obtain ⟨y, hy, hd, -⟩ := wm_get hk
  have hye : isEf (inn y.o) = true := by simp only [Bool.and_eq_true] at hd; exact hd.2
  by_cases e : Lf listed k = decide (k < j)
  · exact e
  · rcases D.free cl hx hl hr hy e with ⟨-, -, p, q, -, -, e1, -, e2, -, hp⟩ | ⟨-, -, p, q, -, -, e1, -, e2, -, hp⟩
    · rw [e1] at hye; rw [e2] at he
      exact absurd ⟨hye, he⟩ (pair_ef hp)
    · rw [e2] at hye; rw [e1] at he
      exact absurd ⟨he, hye⟩ (pair_ef hp)
/-- Those that change memory run in the text's order. -/
theorem Dr.efs (D : Dr P C N ops l T e0 M0 e' M') (cl : ∀ j o, ops.toList[j]? = some o → Lf listed j = true → ∀ k, k ∈ edg o → Lf listed k = true) {i k : Nat} {x y : Tr} (hx : T[i]? = some x) (hy : T[k]? = some y) (hik : i < k)
    (hex : isEf (inn x.o) = true) (hey : isEf (inn y.o) = true) (hk : Lf listed k = true) : Lf listed i = true := by
  rcases D.pair hx hy hik with hb | ⟨p, q, -, -, e1, -, e2, -, hp⟩
  · exact bef_lf cl hb fun o ho => cl k o ho hk
  · rw [e1] at hex; rw [e2] at hey
    exact absurd ⟨hex, hey⟩ (pair_ef hp)
theorem last_of (p : Nat → Bool) : ∀ n, (∃ k, k < n ∧ p k = true) → ∃ k, k < n ∧ p k = true ∧ ∀ m, k < m → m < n → p m = false
  | 0, ⟨k, hk, _⟩ => by omega
  | n + 1, ⟨k, hk, hp⟩ => by
    by_cases hn : p n = true
    · exact ⟨n, by omega, hn, fun m _ _ => by omega⟩
    · obtain ⟨k', h1, h2, h3⟩ := last_of p n ⟨k, by
        rcases Nat.lt_or_ge k n with h | h
        · exact h
        · exact absurd (show p n = true by rw [show n = k by omega]; exact hp) hn, hp⟩
      refine ⟨k', by omega, h2, fun m hm hm' => ?_⟩
      by_cases e : m = n
      · subst e; simpa using hn
      · exact h3 m hm (by omega)
theorem first_of (p : Nat → Bool) (n : Nat) (h : ∃ k, k < n ∧ p k = true) : ∃ k, k < n ∧ p k = true ∧ ∀ m, m < k → p m = false := by
  obtain ⟨k, hk, hp, hl⟩ := last_of (fun i => p (n - 1 - i)) n (by
    obtain ⟨k, hk, hp⟩ := h
    exact ⟨n - 1 - k, by omega, by rw [show n - 1 - (n - 1 - k) = k by omega]; exact hp⟩)
  refine ⟨n - 1 - k, by omega, hp, fun m hm => ?_⟩
  have := hl (n - 1 - m) (by omega) (by omega)
  rwa [show n - 1 - (n - 1 - m) = m by omega] at this
/-- An operation that reads memory reads what it reads in the text's order. -/
theorem Dr.memR (D : Dr P C N ops l T e0 M0 e' M') (cl : ∀ j o, ops.toList[j]? = some o → Lf listed j = true → ∀ k, k ∈ edg o → Lf listed k = true) {j : Nat} {x : Tr} (hx : T[j]? = some x) (hl : Lf listed j = false)
    (hr : ∀ o, ops.toList[j]? = some o → ∀ k, k ∈ edg o → Lf listed k = true) (hon : x.on = true) (hk : okO C x.e x.M (inn x.o)) (hrd : isRd (inn x.o) = true) :
    okO C x.e (wrt (wm C T) 0 (Lf listed) () M0) (inn x.o) ∧ vlO C x.e (wrt (wm C T) 0 (Lf listed) () M0) (inn x.o) = vlO C x.e x.M (inn x.o) := by
  obtain ⟨p, o, -, -, -, -, -, -, -, -, -, -, hM, -⟩ := D.at hx
  let ef : Nat → Bool := fun k => match T[k]? with
    | some y => y.on && isEf (inn y.o)
    | none => false
  have efT : ∀ k, ef k = true → ∃ y, T[k]? = some y ∧ y.on = true ∧ isEf (inn y.o) = true := fun k h => by
    simp only [ef] at h
    split at h
    · rename_i y hy; exact ⟨y, hy, by simpa using h⟩
    · cases h
  have efw : ∀ {k : Nat} {v : Mem}, (wm C T)[k]? = some (some (), v) → ef k = true := fun {k v} h => by
    obtain ⟨y, hy, hd, -⟩ := wm_get h
    simp only [ef, hy]; exact hd
  by_cases ha : ∃ k, k < j ∧ (ef k && !Lf listed k) = true
  · -- the first that has not run
    obtain ⟨k, hkj, hke, hkf⟩ := first_of (fun k => ef k && !Lf listed k) j ha
    simp only [Bool.and_eq_true, Bool.not_eq_true'] at hke
    obtain ⟨y, hy, hyo, hye⟩ := efT k hke.1
    obtain ⟨-, -, -, -, -, -, -, -, -, -, -, -, hyM, -⟩ := D.at hy
    have hmem : wrt (wm C T) 0 (Lf listed) () M0 = y.M := by
      rw [hyM]
      refine wrt_congr fun m v hm => ?_
      rw [Nat.zero_add]
      have hem := efw hm
      obtain ⟨z, hz, hzo, hze⟩ := efT m hem
      rcases Nat.lt_trichotomy m k with h | h | h
      · have := hkf m h
        rw [hem] at this
        simp only [Bool.true_and, Bool.not_eq_false'] at this
        simp [this, h]
      · subst h; simp [hke.2]
      · have : Lf listed m = false := by
          cases hh : Lf listed m
          · rfl
          · rw [D.efs cl hy hz h hye hze hh] at hke; cases hke.2
        rw [this]; simp; omega
    rcases D.free cl hx hl hr hy (by rw [hke.2]; simp; exact hkj) with ⟨-, -, p, q, -, -, e1, e1', e2, e2', hp⟩ | ⟨h, -⟩
    · obtain ⟨c1, c2⟩ := pair_cf hp (.inr ⟨by rw [← e1]; exact hye, by rw [← e2]; exact hrd⟩)
      obtain ⟨lg', g1, g2, -⟩ := trace_cf l T 0 [] e0 M0 e' M' D.tr j x hx hon
      have := g2 k y hkj hy hyo (e1'.trans c2)
      rw [Nat.zero_add] at this
      rw [hmem]
      exact (cf_mem this g1 (by rw [e2']; exact c1)).1 hrd
    · omega
  · by_cases hb : ∃ k, k < T.length ∧ (ef k && Lf listed k && decide (j < k)) = true
    · -- the last one behind it that has run
      obtain ⟨k, hkn, hke, hkl⟩ := last_of (fun k => ef k && Lf listed k && decide (j < k)) T.length hb
      simp only [Bool.and_eq_true, decide_eq_true_eq] at hke
      obtain ⟨⟨hk1, hk2⟩, hk3⟩ := hke
      obtain ⟨y, hy, hyo, hye⟩ := efT k hk1
      have hmem : wrt (wm C T) 0 (Lf listed) () M0 = mmO C y.e y.M (inn y.o) := by
        have hg : (wm C T)[k]? = some (some (), y.m C) := by simp [wm, hy, hyo, hye]
        have hv : y.m C = mmO C y.e y.M (inn y.o) := by simp [Tr.m, hyo]
        rw [← hv]
        refine wrt_last hg (by rw [Nat.zero_add]; exact hk2) fun m v hm hg' => ?_
        rw [Nat.zero_add]
        have hlt : m < T.length := by
          obtain ⟨z, hz, -⟩ := wm_get hg'
          exact (List.getElem?_eq_some_iff.1 hz).1
        have := hkl m hm hlt
        rw [efw hg'] at this
        simp only [Bool.true_and, Bool.and_eq_false_iff, decide_eq_false_iff_not] at this
        rcases this with h | h
        · exact h
        · omega
      rcases D.free cl hx hl hr hy (by rw [hk2]; simp; omega) with ⟨h, -⟩ | ⟨-, -, p, q, -, -, e1, e1', e2, e2', hp⟩
      · omega
      · obtain ⟨c1, c2⟩ := pair_cf hp (.inl ⟨by rw [← e1]; exact hrd, by rw [← e2]; exact hye⟩)
        obtain ⟨lg', g1, g2, -⟩ := trace_cf l T 0 [] e0 M0 e' M' D.tr k y hy hyo
        have := g2 j x hk3 hx hon (e1'.trans c2)
        rw [Nat.zero_add] at this
        rw [hmem]
        exact (cf_mem this g1 (by rw [e2']; exact c1)).2 (ef_not_rd hye)
    · have hmem : wrt (wm C T) 0 (Lf listed) () M0 = x.M := by
        rw [hM]
        refine wrt_congr fun m v hm => ?_
        rw [Nat.zero_add]
        have hem := efw hm
        obtain ⟨z, hz, hzo, hze⟩ := efT m hem
        have hlt := (List.getElem?_eq_some_iff.1 hz).1
        by_cases h1 : m < j
        · have : Lf listed m = true := by
            cases hh : Lf listed m
            · exact absurd ⟨m, h1, by rw [hem, hh]; rfl⟩ ha
            · rfl
          simp [this, h1]
        · by_cases h2 : m = j
          · subst h2
            simp [hl]
          · have : Lf listed m = false := by
              cases hh : Lf listed m
              · rfl
              · exact absurd ⟨m, hlt, by rw [hem, hh]; simp; omega⟩ hb
            rw [this]; simp; omega
      rw [hmem]
      exact ⟨hk, rfl⟩
/-- One operation of the order that is drawn. -/
theorem Dr.step (D : Dr P C N ops l T e0 M0 e' M') (hC : TabOK P C) (hG : B.G = P.globals.size) {Q : Exit → Act → World → Prop} {K : Act → World → Prop} {j : Nat} (I : Inv B C N ops T e0 M0 listed a w) (hj : j ∈ Region.ready .any ops listed)
    (hK : ∀ a' w', Inv B C N ops T e0 M0 (listed.setIfInBounds j true) a' w' → K a' w') : wpOp P ops Q j K a w := by
  obtain ⟨o, ho, hjs, hl, hre⟩ := ready_facts I.sz hj
  have hol : ops.toList[j]? = some o := by simpa using ho
  obtain ⟨q1, -⟩ := trace_at l T 0 [] e0 M0 e' M' D.tr
  have hTl : T.length = ops.size := by
    rw [q1, ← Array.length_toList, ← chkOs_len D.chk, List.length_map]
  have hss := I.sz
  obtain ⟨x, hx⟩ : ∃ x, T[j]? = some x := ⟨T[j]'(by omega), List.getElem?_eq_getElem (by omega)⟩
  obtain ⟨p, o', -, h2, h3, h4, h5, c1, c2, hd, hok, henv, hM, hedg⟩ := D.at hx
  rw [hol] at h2
  cases h2
  have hr : ∀ o, ops.toList[j]? = some o → ∀ k, k ∈ edg o → Lf listed k = true := fun o ho' => by rw [hol] at ho'; cases ho'; exact hre
  obtain ⟨ρ, i1, i2, i3, i4⟩ := I.st
  have hlook : ∀ t, t ∈ looks x.o → VE ρ (look x.e t) (a.tmps.getD t undef) := fun t ht => by rw [← D.env I.cl hx hl hr ht]; exact i1 t
  -- what stands behind it
  have hcl : ∀ k o, ops.toList[k]? = some o → Lf (listed.setIfInBounds j true) k = true → ∀ m, m ∈ edg o → Lf (listed.setIfInBounds j true) m = true := fun k o ho' hk m hm => by
    rw [Lf_set hjs] at hk ⊢
    by_cases e : j = k
    · subst e
      by_cases e2 : j = m
      · rw [if_pos e2]
      · rw [if_neg e2]; exact hr o ho' m hm
    · rw [if_neg e] at hk
      by_cases e2 : j = m
      · rw [if_pos e2]
      · rw [if_neg e2]; exact I.cl k o ho' hk m hm
  have hother : ∀ k y, T[k]? = some y → j < k → Lf listed k = true → (∀ d, dsO x.o = some d → dsO y.o ≠ some d) ∧ ¬ (isEf (inn x.o) = true ∧ isEf (inn y.o) = true) := fun k y hy hk hkl => by
    rcases D.free I.cl hx hl hr hy (by rw [hkl]; simp; omega) with ⟨h, -⟩ | ⟨-, -, p, q, -, -, e1, -, e2, -, hp⟩
    · omega
    · refine ⟨fun d hdx => ?_, ?_⟩
      · rw [e1] at hdx; rw [e2]; exact ((pair_apart hp).1 d hdx).2
      · rw [e1, e2]; exact pair_ef hp
  have hnew : ∀ t, wrt (ws C T) 0 (Lf (listed.setIfInBounds j true)) t (look e0 t) = if dsO x.o = some t then x.v C else wrt (ws C T) 0 (Lf listed) t (look e0 t) := fun t => by
    by_cases e : dsO x.o = some t
    · rw [if_pos e]
      refine wrt_last (k := j) (by simp [ws, hx, e]) (by rw [Nat.zero_add, Lf_set hjs, if_pos rfl]) fun k v hk hg => ?_
      obtain ⟨y, hy, hdy, -⟩ := ws_get hg
      rw [Nat.zero_add, Lf_set hjs, if_neg (by omega)]
      cases hh : Lf listed k
      · rfl
      · exact absurd hdy ((hother k y hy hk hh).1 t e)
    · rw [if_neg e]
      refine wrt_congr fun k v hg => ?_
      obtain ⟨y, hy, hdy, -⟩ := ws_get hg
      rw [Nat.zero_add, Lf_set hjs, if_neg]
      rintro rfl
      rw [hx] at hy; cases hy; exact e hdy
  have hmnew : wrt (wm C T) 0 (Lf (listed.setIfInBounds j true)) () M0 = if (x.on && isEf (inn x.o)) = true then x.m C else wrt (wm C T) 0 (Lf listed) () M0 := by
    by_cases e : (x.on && isEf (inn x.o)) = true
    · rw [if_pos e]
      refine wrt_last (k := j) (by simp only [wm, List.getElem?_map, hx, Option.map_some]; rw [if_pos e]) (by rw [Nat.zero_add, Lf_set hjs, if_pos rfl]) fun k v hk hg => ?_
      obtain ⟨y, hy, hdy, -⟩ := wm_get hg
      rw [Nat.zero_add, Lf_set hjs, if_neg (by omega)]
      cases hh : Lf listed k
      · rfl
      · simp only [Bool.and_eq_true] at e hdy
        exact absurd ⟨e.2, hdy.2⟩ (hother k y hy hk hh).2
    · rw [if_neg e]
      refine wrt_congr fun k v hg => ?_
      obtain ⟨y, hy, hdy, -⟩ := wm_get hg
      rw [Nat.zero_add, Lf_set hjs, if_neg]
      rintro rfl
      rw [hx] at hy; cases hy; exact e hdy
  have hsz : (listed.setIfInBounds j true).size = ops.size := by simp [I.sz]
  have hput : ∀ {ρ' : Rn} {w' : World} {v : Value}, dOk N (dsO x.o) = true → o.dst = dsO x.o → ρ.LeL ρ' → VE ρ' (x.v C) v → MemR B ρ' (wrt (wm C T) 0 (Lf (listed.setIfInBounds j true)) () M0) w' →
      Inv B C N ops T e0 M0 (listed.setIfInBounds j true) (a.put o.dst v) w' := fun {ρ' w' v} hdk hds hle hv hm' => by
    refine ⟨hsz, hcl, ρ', fun t => ?_, hm', ?_, ?_⟩
    · rw [hnew t, hds]
      cases hdd : dsO x.o with
      | none => simp only [Act.put]; rw [if_neg (by simp)]; exact (i1 t).mono hle
      | some d =>
        rw [hdd] at hdk
        have hlt : d < N := by simpa [dOk] using hdk
        simp only [Act.put]
        rw [getD_set _ _ _ _ (by omega)]
        by_cases ht : d = t
        · subst ht; rw [if_pos rfl, if_pos rfl]; exact hv
        · rw [if_neg (by simpa using ht), if_neg ht]; exact (i1 t).mono hle
    · rw [hds]; cases dsO x.o <;> exact i3
    · rw [hds]; cases dsO x.o <;> simpa [Act.put] using i4
  -- the operation runs
  have hrunning : x.on = true → okO C x.e x.M (inn x.o) → sup (inn x.o) = true → dOk N (dsO (inn x.o)) = true → o.dst = dsO (inn x.o) → chkOp P (inn x.o) o.op = true → (∀ t, t ∈ tmpsO (opds (inn x.o)) → t ∈ looks x.o) → isGd (inn x.o) = false → o.wp P a w K Q := by
    intro hon hk hs hdk hds hco hlk hng
    have hv : x.v C = vlO C x.e x.M (inn x.o) := by simp [Tr.v, hon]
    have hmm : x.m C = mmO C x.e x.M (inn x.o) := by simp [Tr.m, hon]
    have key : okO C x.e (wrt (wm C T) 0 (Lf listed) () M0) (inn x.o) ∧ vlO C x.e (wrt (wm C T) 0 (Lf listed) () M0) (inn x.o) = vlO C x.e x.M (inn x.o) := by
      by_cases he : isEf (inn x.o) = true
      · rw [D.memE I.cl hx hl hr he]; exact ⟨hk, rfl⟩
      · by_cases hrd : isRd (inn x.o) = true
        · exact D.memR I.cl hx hl hr hon hk hrd
        · have := same_val (C := C) (M := wrt (wm C T) 0 (Lf listed) () M0) (M' := x.M) (e := x.e) (by simpa using he) (by simpa using hrd) hng
          exact ⟨by rw [this.1]; exact hk, this.2⟩
    have hOE : OE P ρ x.e a (opds (inn x.o)) := fun y z hy hc => chkX_sound i2 hG hc fun t ht => hlook t (hlk t (mem_tmpsO (ht ▸ hy)))
    refine sim_op hC hG hs hco key.1 hOE i2 K Q fun v w' ⟨ρ', g1, g2, g3⟩ => hK _ _ ?_
    rw [key.2, ← hv] at g2
    refine hput (by rw [dsO_inn]; exact hdk) (by rw [hds, ← dsO_inn]) g1 g2 ?_
    rw [hmnew]
    by_cases he : isEf (inn x.o) = true
    · rw [if_pos (by rw [hon, he]; rfl), hmm]
      rw [D.memE I.cl hx hl hr he] at g3
      exact g3
    · rw [if_neg (by rw [hon]; simpa using he)]
      rw [same_mem (by simpa using he)] at g3
      exact g3
  unfold wpOp
  rw [ho]
  simp only
  rcases gd_or x.o with ⟨t, b, y, hxo⟩ | hng
  · rw [hxo] at c1 c2 hd
    have hdd : sup y = true ∧ dOk N (dsO y) = true := by simpa [okD] using hd
    obtain ⟨d1, d2⟩ := chkO_in c1
    have hok' : (look x.e t = .b b ∧ x.on = true ∧ okO C x.e x.M y) ∨ (look x.e t = .b (!b) ∧ x.on = false) := by unfold Tr.ok at hok; rw [hxo] at hok; exact hok
    have hvt := hlook t (by rw [hxo]; simp [looks])
    have hin : inn x.o = y := by rw [hxo]; rfl
    rcases hok' with ⟨g1, g2, g3⟩ | ⟨g1, g2⟩
    · rw [g1] at hvt
      have hw := wanted_gd (a := a) c1 c2 (b' := b) hvt
      rw [if_pos (by rw [hw]; simp)]
      refine .inl (hrunning g2 (by rw [hin]; exact g3) (by rw [hin]; exact hdd.1) (by rw [hin]; exact hdd.2) (by rw [hin]; exact d1) (by rw [hin]; exact d2) (fun t' ht' => by rw [hin] at ht'; rw [hxo]; simp [looks, ht']) ?_)
      rw [hin]
      cases y <;> first | rfl | exact Bool.noConfusion (show false = true from hdd.1)
    · rw [g1] at hvt
      have hw := wanted_gd (a := a) c1 c2 (b' := !b) hvt
      rw [if_neg (by rw [hw]; cases b <;> simp)]
      refine hK _ _ (hput (ρ' := ρ) (by rw [hxo]; exact hdd.2) (by rw [hxo]; exact d1) (.refl ρ) (by simp only [Tr.v, g2]; exact trivial) ?_)
      rw [hmnew, if_neg (by rw [g2]; simp)]
      exact i2
  · rw [if_pos (wanted_ng hng c1)]
    rw [Tr.ok_ng hng] at hok
    rw [chkO_ng hng] at c1
    simp only [Bool.and_eq_true, beq_iff_eq] at c1
    rw [okD_ng hng] at hd
    have hs : sup x.o = true ∧ dOk N (dsO x.o) = true := by simpa using hd
    have hin := inn_ng hng
    exact .inl (hrunning hok.1 (by rw [hin]; exact hok.2) (by rw [hin]; exact hs.1) (by rw [hin]; exact hs.2) (by rw [hin]; exact c1.1.2) (by rw [hin]; exact c1.2) (fun t' ht' => by
      rw [hin] at ht'
      cases hxo : x.o <;> rw [hxo] at ht' hng <;> first | exact ht' | exact Bool.noConfusion (show true = false from hng)) (by rw [hin]; exact hng))
theorem Dr.all (D : Dr P C N ops l T e0 M0 e' M') (I : Inv B C N ops T e0 M0 listed a w) (h : Region.ready .any ops listed = []) : Ex B N e' M' a w := by
  have hall : ∀ j, j < ops.size → Lf listed j = true := by
    intro j
    induction j using Nat.strongRecOn with
    | ind j ih =>
      intro hj
      cases hl : Lf listed j
      · exfalso
        have hmem : j ∈ Region.ready .any ops listed := by
          refine mem_ready.2 ⟨?_, ops[j], by simp [hj], fun e he hb => ?_⟩
          · have := I.sz
            simp only [Lf, Array.getD_eq_getD_getElem?] at hl ⊢
            rw [Array.getElem?_eq_getElem (by omega)] at hl ⊢
            exact hl
          · obtain ⟨q1, -⟩ := trace_at l T 0 [] e0 M0 e' M' D.tr
            have hTl : T.length = ops.size := by rw [q1, ← Array.length_toList, ← chkOs_len D.chk, List.length_map]
            obtain ⟨p, o, -, h2, -, -, -, -, -, -, -, -, -, hedg⟩ := D.at (j := j) (x := T[j]'(by omega)) (List.getElem?_eq_getElem (by omega))
            have : o = ops[j] := by
              have : ops[j]? = some o := by simpa using h2
              rw [Array.getElem?_eq_getElem hj] at this
              exact (Option.some.inj this).symm
            subst this
            have hm : e.on ∈ edg ops[j] := List.mem_map.2 ⟨e, List.mem_filter.2 ⟨by simpa using he, hb⟩, rfl⟩
            have hlt := hedg _ hm
            exact ih _ hlt (by omega)
        rw [h] at hmem; cases hmem
      · rfl
  obtain ⟨q1, q2, q3, -⟩ := trace_at l T 0 [] e0 M0 e' M' D.tr
  have hTl : T.length = ops.size := by rw [q1, ← Array.length_toList, ← chkOs_len D.chk, List.length_map]
  obtain ⟨ρ, i1, i2, i3, i4⟩ := I.st
  refine ⟨ρ, fun t => ?_, ?_, i3, i4⟩
  · rw [q2 t (fun _ => true) fun _ _ => rfl]
    rw [wrt_congr (L' := Lf listed) fun k v hk => ?_]
    · exact i1 t
    · obtain ⟨y, hy, -⟩ := ws_get hk
      have := (List.getElem?_eq_some_iff.1 hy).1
      rw [Nat.zero_add, hall k (by omega)]
  · rw [q3 (fun _ => true) fun _ _ => rfl]
    rw [wrt_congr (L' := Lf listed) fun k v hk => ?_]
    · exact i2
    · obtain ⟨y, hy, -⟩ := wm_get hk
      have := (List.getElem?_eq_some_iff.1 hy).1
      rw [Nat.zero_add, hall k (by omega)]
theorem Dr.go (D : Dr P C N ops l T e0 M0 e' M') (hC : TabOK P C) (hG : B.G = P.globals.size) {Q : Exit → Act → World → Prop} (hQ : ∀ a w, Ex B N e' M' a w → Q .normal a w) :
    ∀ (fuel : Nat) (listed : Array Bool) (a : Act) (w : World), ops.size ≤ listed.toList.count true + fuel → Inv B C N ops T e0 M0 listed a w → wpAny P .any ops Q fuel listed a w
  | 0, listed, a, w, hf, I => by
    have hr : Region.ready .any ops listed = [] := by
      refine List.eq_nil_iff_forall_not_mem.2 fun j hj => ?_
      obtain ⟨o, ho, hjs, hl, -⟩ := ready_facts I.sz hj
      have hlen : listed.toList.count true = listed.toList.length := by
        have := List.count_le_length (a := true) (l := listed.toList)
        have := I.sz
        rw [Array.length_toList] at *
        omega
      have := List.count_eq_length.1 hlen (listed[j]) (by simp)
      simp only [Lf, Array.getD_eq_getD_getElem?] at hl
      rw [Array.getElem?_eq_getElem hjs] at hl
      simp only [Option.getD_some] at hl
      rw [hl] at this
      cases this
    exact ⟨hr, hQ _ _ (D.all I hr)⟩
  | fuel + 1, listed, a, w, hf, I => by
    refine ⟨fun hr => hQ _ _ (D.all I hr), fun j hj => D.step hC hG I hj fun a' w' I' => Dr.go D hC hG hQ fuel _ a' w' ?_ I'⟩
    obtain ⟨o, ho, hjs, hl, -⟩ := ready_facts I.sz hj
    simp only [Lf, Array.getD_eq_getD_getElem?] at hl
    rw [Array.getElem?_eq_getElem hjs] at hl
    simp only [Option.getD_some] at hl
    have hlj : listed.toList[j]'(by simpa using hjs) = false := by simpa using hl
    rw [Array.toList_setIfInBounds, List.count_set (by simpa using hjs), hlj, if_neg (by decide), if_pos (by decide)]
    omega
end
def chkP (P : Program) (N : Nat) (l : List PO) (ops : Array Oper) : Bool := chkOs P ops (l.map (·.o)) ops.toList && okDs N (l.map (·.o)) && parGo 0 [] [] l ops.toList
section
variable {P : Program} {B : Base} {C : Tab} {M : Mem} {w : World} {e : Env} {a : Act} {N : Nat}
theorem count_rep : ∀ n, (List.replicate n false).count true = 0
  | 0 => rfl
  | n + 1 => by simp [List.replicate_succ, count_rep n]
theorem draw_ok {id : Nat} {ops : Array Oper} {Q : Exit → Act → World → Prop} {κ : Env → Mem → Prop} {l : List PO} (hC : TabOK P C) (hG : B.G = P.globals.size) (hmx : P.follows .mixedOrders = true) (hQ : ∀ e M a w, κ e M → Ex B N e M a w → Q .normal a w)
    (hc : chkP P N l ops = true) (hk : doPs C 0 [] l e M κ) (h : Ex B N e M a w) : (Code.region id ops true).wp P Q a w := by
  simp only [chkP, Bool.and_eq_true] at hc
  obtain ⟨T, e', M', hT, hκ⟩ := trace_of l 0 [] e M hk
  have D : Dr P C N ops l T e M e' M' := ⟨hT, hc.1.1, hc.1.2, hc.2⟩
  refine wp_region_any hmx (D.go hC hG (fun a w hx => hQ _ _ a w hκ hx) _ _ _ _ (by omega) ?_)
  obtain ⟨ρ, h⟩ := h
  have hL : ∀ k, Lf (Array.replicate ops.size false) k = false := fun k => by
    simp only [Lf, Array.getD_eq_getD_getElem?, Array.getElem?_replicate]
    split <;> rfl
  refine ⟨by simp, fun j o _ hj => (by rw [hL] at hj; cases hj), ρ, fun t => ?_, ?_, h.dfr, h.sz⟩
  · rw [wrt_none fun j v _ => hL _]; exact h.env t
  · rw [wrt_none fun j v _ => hL _]; exact h.mem.drew
end
end Go.Vm
