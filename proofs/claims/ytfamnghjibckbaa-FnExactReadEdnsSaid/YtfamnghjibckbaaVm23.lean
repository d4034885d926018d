/- Tables of functions by levels of calls; opening arguments: rows of flat values, and structs of these. -/
import Derived.Test.YtfamnghjibckbaaVm21
import Derived.Test.YtfamnghjibckbaaSl0
import Derived.ChangeArms
namespace Go.Vm
set_option linter.unusedVariables false
set_option linter.unusedSimpArgs false
/-! Tables. -/
def lkF : List (Nat × Fn) → Nat → Option Fn
  | [], _ => none
  | p :: r, n => if p.1 = n then some p.2 else lkF r n
def AllK (P : Program) : List (Nat × Fn) → Prop
  | [] => True
  | p :: r => chkF P p.2 p.1 = true ∧ AllK P r
theorem AllK.lk {P : Program} {n : Nat} {F : Fn} : ∀ {l : List (Nat × Fn)}, AllK P l → lkF l n = some F → chkF P F n = true
  | [], _, h => by cases h
  | p :: r, ⟨h1, h2⟩, h => by
    unfold lkF at h
    split at h
    · rename_i e
      cases h; subst e; exact h1
    · exact AllK.lk h2 h
noncomputable def tabK (l : List (Nat × Fn)) : Nat → Tab
  | 0 => fun _ _ _ => none
  | k + 1 => fun n => match lkF l n with
    | some F => ent (tabK l k) F
    | none => fun _ _ => none
theorem tabK_at {l : List (Nat × Fn)} {k n : Nat} {F : Fn} (h : lkF l n = some F) : tabK l (k + 1) n = ent (tabK l k) F := by
  show (match lkF l n with
    | some F => ent (tabK l k) F
    | none => fun _ _ => none) = _
  rw [h]
theorem tabK_ok {P : Program} {l : List (Nat × Fn)} (hl : AllK P l) (hmx : P.follows .mixedOrders = true) : ∀ k, TabOK P (tabK l k)
  | 0 => TabOK.none
  | k + 1 => fun f vs H v H' h => by
    cases e : lkF l f with
    | none =>
      have : tabK l (k + 1) f vs H = none := by
        show (match lkF l f with
          | some F => ent (tabK l k) F
          | none => fun _ _ => none) vs H = none
        rw [e]
      rw [this] at h; cases h
    | some F =>
      have h1 := ent_ok (tabK_ok hl hmx k) hmx (hl.lk e)
      refine h1 f vs H v H' ?_
      unfold Vm.ext
      rw [if_pos rfl, ← tabK_at e]
      exact h
theorem tabK_run {l : List (Nat × Fn)} {k n : Nat} {F : Fn} {G : AV → AH → Prop} {vs : List AV} {H : AH} (e : lkF l n = some F) (h : Runs (tabK l k) F vs H G) : ∃ v H', tabK l (k + 1) n vs H = some (v, H') ∧ G v H' := by
  have := ent_spec (f := n) h
  rw [tabK_at e]
  unfold Vm.ext at this
  simpa using this
theorem tabK_eq {l : List (Nat × Fn)} {k n : Nat} {F : Fn} {vs : List AV} {H : AH} {r : AV} (e : lkF l n = some F) (h : Runs (tabK l k) F vs H fun v H' => H' = H ∧ v = r) : tabK l (k + 1) n vs H = some (r, H) := by
  obtain ⟨v, H', h1, rfl, rfl⟩ := tabK_run e h
  exact h1

/-! Flat values. -/
def flatFs (P : Program) (g : TypeId → Option (List Ck)) : Nat → List Field → Option (List Ck)
  | _, [] => some []
  | off, f :: r => match g f.type with
    | some ks => if f.offset = off ∧ P.cellsOf f.type = ks.length then (match flatFs P g (off + ks.length) r with
      | some q => some (ks ++ q)
      | none => none) else none
    | none => none
def flatTy (P : Program) : Nat → TypeId → Option (List Ck)
  | 0, _ => none
  | n + 1, t => match P.underlying t with
    | some .bool => some [.b]
    | some .string => some [.s]
    | some (.int k) => some [.i k]
    | some (.struct fs) => match flatFs P (flatTy P n) 0 fs.toList with
      | some ks => if P.cellsOf t = ks.length then some ks else none
      | none => none
    | _ => none
/-- A cell that is read: of its kind, and no greater than values are. -/
def atomOk : Ck → AV → Prop
  | .b, a => ∃ x, a = .b x
  | .s, a => ∃ l, a = .s l ∧ l.length ≤ 9223372036854775807
  | .i k, a => ∃ n, a = .i k n ∧ k.min ≤ n ∧ n ≤ k.max
def atomsOk : List Ck → List AV → Prop
  | [], [] => True
  | k :: q, a :: r => atomOk k a ∧ atomsOk q r
  | _, _ => False
theorem atomsOk.len : ∀ {ks : List Ck} {us : List AV}, atomsOk ks us → us.length = ks.length
  | [], [], _ => rfl
  | _ :: _, _ :: _, h => by simp [h.2.len]
  | [], _ :: _, h => h.elim
  | _ :: _, [], h => h.elim
theorem atomsOk.app : ∀ {ks q : List Ck} {us r : List AV}, atomsOk ks us → atomsOk q r → atomsOk (ks ++ q) (us ++ r)
  | [], _, [], _, _, h => h
  | _ :: _, _, _ :: _, _, h, h' => ⟨h.1, h.2.app h'⟩
  | [], _, _ :: _, _, h, _ => h.elim
  | _ :: _, _, [], _, h, _ => h.elim
section
variable {H : Type} {enc : TypeId × Value → H} {P : Program} {w : World}
theorem flatFs_open {g : TypeId → Option (List Ck)} {trd : TypeId → List Value → Option (DataW H × List MemPlace)}
    (hg : ∀ t ks cs z, g t = some ks → trd t cs = some z → ∃ us, atomsOk ks us ∧ ∀ ρ, All2 (VA ρ) us cs) : ∀ {fs : List Field} {off : Nat} {ks : List Ck} {cs : List Value} , flatFs P g off fs = some ks → cs.length = off + ks.length →
    (∀ f, f ∈ fs → ∃ z, trd f.type ((cs.drop f.offset).take (P.cellsOf f.type)) = some z) → ∃ us, atomsOk ks us ∧ ∀ ρ, All2 (VA ρ) us (cs.drop off)
  | [], off, ks, cs, h, hl, _ => by
    cases h
    exact ⟨[], trivial, fun ρ => by rw [List.drop_of_length_le (by simp at hl; omega)]; trivial⟩
  | f :: r, off, ks, cs, h, hl, hf => by
    unfold flatFs at h
    split at h
    · rename_i k1 e1
      split at h
      · rename_i e2
        split at h
        · rename_i q e3
          cases h
          obtain ⟨z, hz⟩ := hf f (by simp)
          obtain ⟨us, h1, h2⟩ := hg _ _ _ _ e1 hz
          obtain ⟨bs, h3, h4⟩ := flatFs_open hg e3 (cs := cs) (by rw [hl]; simp; omega) (fun f' hf' => hf f' (by simp [hf']))
          refine ⟨us ++ bs, h1.app h3, fun ρ => ?_⟩
          have h5 := h2 ρ
          rw [e2.1, e2.2] at h5
          have := All2.append h5 (h4 ρ)
          rwa [← List.drop_drop, List.take_append_drop] at this
        · cases h
      · cases h
    · cases h
theorem flat_open : ∀ {n : Nat} {t : TypeId} {ks : List Ck} {fuel : Nat} {cs : List Value} {z : DataW H × List MemPlace}, flatTy P n t = some ks → DataW.trod enc P w 0 (fun _ => true) true fuel t cs = some z → ∃ us, atomsOk ks us ∧ ∀ ρ, All2 (VA ρ) us cs
  | 0, _, _, _, _, _, h, _ => by cases h
  | n + 1, t, ks, fuel, cs, z, h, hz => by
    unfold flatTy at h
    split at h
    · rename_i e
      cases h
      obtain ⟨b, rfl, -⟩ := DataW.trod_bool e hz
      exact ⟨[.b b], ⟨⟨b, rfl⟩, trivial⟩, fun ρ => ⟨rfl, trivial⟩⟩
    · rename_i e
      cases h
      obtain ⟨s, rfl, -, hs⟩ := DataW.trod_string e hz
      have hs' : s.data.size ≤ maxLen := hs
      refine ⟨[.s s.data.toList], ⟨⟨_, rfl, ?_⟩, trivial⟩, fun ρ => ⟨(show VP ρ (.s s.data.toList) _ from rfl), trivial⟩⟩
      simp only [Array.length_toList]
      unfold maxLen at hs'
      omega
    · rename_i k e
      cases h
      obtain ⟨m, rfl, -, hs⟩ := DataW.trod_int e hz
      refine ⟨[.i k m], ⟨⟨m, rfl, ?_⟩, trivial⟩, fun ρ => ⟨rfl, trivial⟩⟩
      simpa [Lit.wf] using hs
    · rename_i fs e
      split at h
      · rename_i ks' e1
        split at h
        · rename_i e2
          cases h
          obtain ⟨xs, m, -, -, h1, h2, h3⟩ := DataW.trod_struct e hz
          have := flatFs_open (P := P) (g := flatTy P n) (trd := fun t cs => DataW.trod enc P w 0 (fun _ => true) true m t cs) (fun t ks cs z h h' => flat_open h h') (cs := cs) e1 (by omega) (fun f hf => by
            obtain ⟨i, hi⟩ := List.getElem?_of_mem hf
            have hi' : fs[i]? = some f := by simpa using hi
            have hlt := (Array.getElem?_eq_some_iff.1 hi').1
            exact ⟨xs[i], by rw [h3 i f hi']; simp⟩)
          simpa using this
        · cases h
      · cases h
    · cases h
/-! A row of flat values. -/
theorem rows_flat {α : Type} {E : Enc α} {pre : α → Prop} {ρ : Rn} {cl : List Value} : ∀ (len off : Nat), off + len * E.z ≤ cl.length →
    (∀ i, i < len → ∃ x, pre x ∧ All2 (VA ρ) (E.fn x) ((cl.drop (off + i * E.z)).take E.z)) → ∃ l : List α, l.length = len ∧ (∀ x, x ∈ l → pre x) ∧ All2 (VA ρ) (flat (l.map E.v)) ((cl.drop off).take (len * E.z))
  | 0, off, _, _ => ⟨[], rfl, by simp, by simp [flat, All2]⟩
  | len + 1, off, hl, h => by
    obtain ⟨x, hx, h1⟩ := h 0 (by omega)
    rw [Nat.zero_mul, Nat.add_zero] at h1
    have e1 : (len + 1) * E.z = E.z + len * E.z := by rw [Nat.add_mul, Nat.one_mul, Nat.add_comm]
    obtain ⟨l, h2, h3, h4⟩ := rows_flat (E := E) (ρ := ρ) (cl := cl) (pre := pre) len (off + E.z) (by omega) (fun i hi => by
      have := h (i + 1) (by omega)
      rwa [Nat.add_mul, Nat.one_mul, ← Nat.add_assoc, Nat.add_right_comm] at this)
    refine ⟨x :: l, by simp [h2], fun y hy => (List.mem_cons.1 hy).elim (fun e => e ▸ hx) (h3 y), ?_⟩
    rw [e1, List.map_cons]
    show All2 (VA ρ) ((E.v x).cells ++ flat (l.map E.v)) _
    rw [List.take_add, List.drop_drop]
    exact All2.append h1 h4
theorem cells_at {b o n : Nat} {vals : List Value} {c : Array Value} {ty : TypeId} {fz : Nat × Nat} (hb : w.heap[b]? = some (.cells c ty fz)) (h : w.cells? 0 ⟨b, o, none⟩ n = some vals) (hn : 0 < n) : vals = (c.toList.drop o).take n ∧ o + n ≤ c.size := by
  obtain ⟨-, h1, h2⟩ := World.cells?_some h
  have hs : o + n ≤ c.size := by
    have h3 := h2 (n - 1) (by omega)
    rw [add_eq, cell_row hb, List.getElem?_eq_getElem (by omega)] at h3
    have := (Array.getElem?_eq_some_iff.1 h3).1
    omega
  refine ⟨List.ext_getElem? fun i => ?_, hs⟩
  by_cases hi : i < n
  · have h3 := h2 i hi
    rw [add_eq, cell_row hb] at h3
    rw [← h3, List.getElem?_take, if_pos hi, List.getElem?_drop]
    simp
  · rw [List.getElem?_eq_none (by omega), List.getElem?_eq_none (by simp; omega)]
theorem Fst.slice {α : Type} {E : Enc α} {pre : α → Prop} {base : Nat} {ρ : Rn} {H0 : AH} (F : Fst P ρ H0 w) {t e : TypeId} (ht : P.underlying t = some (.slice e)) (hce : P.cellsOf e = E.z) (hz : 0 < E.z)
    (hel : ∀ n vals z, DataW.trod enc P w 0 (fun _ => true) true n e vals = some z → ∃ x : α, pre x ∧ ∀ ρ, All2 (VA ρ) (E.fn x) vals) {fuel : Nat} {v : Value} {y : DataW H × List MemPlace}
    (hval : Cell.okWide P w .any base t v) (hd : DataW.trod enc P w 0 (fun _ => true) true fuel t [v] = some y) : ∃ ρ' H' a l, Fst P ρ' H' w ∧ ρ.Le ρ' ∧ Ext H0 H' ∧ VP ρ' a v ∧ Sx H' E a l ∧ l.length ≤ 9223372036854775807 ∧ ∀ x, x ∈ l → pre x := by
  rcases DataW.trod_slice ht hd with ⟨h1, -⟩ | ⟨ad, len, cap, elems, rest, n, -, h2, -, -, h5, h6, h7, h8, h9, -⟩
  · cases h1
    exact ⟨ρ, H0, .ns, [], F, .refl ρ, .refl H0, (show VP ρ .ns _ from rfl), Sl.nil, by simp, by simp⟩
  · have hv := List.singleton_inj.1 h2
    subst hv
    simp only [Cell.okWide, ht, Cell.ok] at hval
    obtain ⟨-, -, -, hsp, row, cells, hsh, -⟩ := hval
    obtain ⟨b, off, spot⟩ := ad
    have hsp' : spot = none := hsp
    subst hsp'
    have hsh' : w.shape? b = some (row, cells) := hsh
    obtain ⟨c, ty, fz, hb⟩ : ∃ c ty fz, w.heap[b]? = some (.cells c ty fz) := by
      unfold World.shape? at hsh'
      split at hsh'
      · rename_i c ty fz hb; exact ⟨c, ty, fz, hb⟩
      · cases hsh'
    rw [hce] at h8 h9
    simp only [add_eq] at h8 h9
    have key : ∀ o z, (w.cells? 0 ⟨b, o, none⟩ E.z).bind (DataW.trod enc P w 0 (fun _ => true) true n e) = some z → (∃ x : α, pre x ∧ ∀ ρ, All2 (VA ρ) (E.fn x) ((c.toList.drop o).take E.z)) ∧ o + E.z ≤ c.size := by
      intro o z hzz
      cases hc : w.cells? 0 ⟨b, o, none⟩ E.z with
      | none => rw [hc] at hzz; cases hzz
      | some vals =>
        rw [hc] at hzz
        obtain ⟨k1, k2⟩ := cells_at hb hc hz
        subst k1
        exact ⟨hel _ _ _ hzz, k2⟩
    have hcell : ∀ i, i < cap → (∃ x : α, pre x ∧ ∀ ρ, All2 (VA ρ) (E.fn x) ((c.toList.drop (off + i * E.z)).take E.z)) ∧ off + i * E.z + E.z ≤ c.size := by
      intro i hi
      rcases Nat.lt_or_ge i len with hl | hl
      · exact key _ _ ((h8 i hl).trans (List.getElem?_eq_getElem (by omega)))
      · obtain ⟨h10, h11⟩ := h9 trivial
        have := h11 (i - len) (by omega)
        rw [show len + (i - len) = i by omega] at this
        exact key _ _ (this.trans (List.getElem?_eq_getElem (by omega)))
    have hsz : cap = 0 ∨ off + cap * E.z ≤ c.size := by
      rcases Nat.eq_zero_or_pos cap with h | h
      · exact .inl h
      · have := (hcell (cap - 1) (by omega)).2
        have e : cap * E.z = (cap - 1) * E.z + E.z := by
          conv => lhs; rw [show cap = (cap - 1) + 1 by omega]
          rw [Nat.add_mul, Nat.one_mul]
        exact .inr (by omega)
    have hml : len ≤ 9223372036854775807 := by unfold maxLen at h6; omega
    by_cases hl0 : len = 0
    · subst hl0
      have ho : ∃ o, o ≤ c.size ∧ (off = o ∨ cap = 0) := by
        rcases hsz with h | h
        · exact ⟨0, Nat.zero_le _, .inr h⟩
        · exact ⟨off, by omega, .inl rfl⟩
      obtain ⟨o, ho1, ho2⟩ := ho
      obtain ⟨F', hle⟩ := F.row (o := o) (z := E.z) (xs := []) hb (by simp) (by simpa using ho1) (by simp [flat, All2])
      refine ⟨_, _, .sl H0.n 0 0, [], F', hle, .new _ _, ?_, ?_, by simp, by simp⟩
      · exact ⟨⟨b, o, E.z, 0, 0, c.size⟩, by simp [Rn.addP], Nat.le_refl _, Nat.le_refl _, off, cap, h5, by rcases ho2 with h | h <;> simp [h], by simpa using hsz, rfl⟩
      · exact Sl.sl (els := []) (by simp) new_at (by simp) rfl (by simp)
    · have hsz' : off + cap * E.z ≤ c.size := hsz.resolve_left (by omega)
      have hlc : len * E.z ≤ cap * E.z := Nat.mul_le_mul_right _ h5
      obtain ⟨l, hlen, hpre, hrel⟩ := rows_flat (E := E) (pre := pre) (ρ := ρ) (cl := c.toList) len off (by simp; omega) (fun i hi => by
        obtain ⟨x, hx, hx'⟩ := (hcell i (by omega)).1
        exact ⟨x, hx, hx' ρ⟩)
      obtain ⟨F', hle⟩ := F.row (o := off) (z := E.z) (xs := l.map E.v) hb (fun x hx => by
        obtain ⟨y, -, rfl⟩ := List.mem_map.1 hx
        exact Enc.cells y) (by rw [List.length_map, hlen]; omega) (by rw [List.length_map, hlen]; exact hrel)
      refine ⟨_, _, .sl H0.n 0 len, l, F', hle, .new _ _, ?_, ?_, by omega, hpre⟩
      · exact ⟨⟨b, off, E.z, 0, (l.map E.v).length, c.size⟩, by simp [Rn.addP], Nat.le_refl _, by simp [hlen], off, cap, h5, .inl (by simp), by simpa using hsz, rfl⟩
      · have := Sl.sl (H := H0.new (.arr false 0 E.z (l.map E.v))) (z := E.z) (id := H0.n) (ix := 0) (els := l.map E.v) (by simp) new_at (by simp) (by rw [List.drop_zero, List.take_length]) (by simp)
        rwa [List.length_map, hlen] at this
end
end Go.Vm
