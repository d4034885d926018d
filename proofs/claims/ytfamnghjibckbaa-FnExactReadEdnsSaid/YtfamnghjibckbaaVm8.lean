/- What an operation of the abstract machine means for Go's own: own variables, stores, new memory. -/
import Derived.Test.YtfamnghjibckbaaVm7
namespace Go.Vm
set_option linter.unusedVariables false
set_option linter.unusedSimpArgs false
section ops
variable {P : Program} {B : Base} {C : Tab} {ρ : Rn} {M : Mem} {w : World} {e : Env} {a : Act} {o : Oper}

def Rn.newL (ρ : Rn) (t g b z : Nat) : Rn := { ρ with lo := fun t' g' => if t' = t ∧ g' = g then some (b, z) else ρ.lo t' g', own := fun b' => if b' = b then .loc else ρ.own b' }
theorem Rn.le_newL {t g b z : Nat} (h : ρ.lo t g = none) : ρ.LeL (ρ.newL t g b z) :=
  ⟨⟨fun i q hq => ⟨q, hq, rfl, rfl, rfl, rfl, rfl, Nat.le_refl _⟩, fun _ _ h => h⟩, fun t' g' x hx => by
    simp only [Rn.newL]
    rw [if_neg (fun he => by rw [he.1, he.2, h] at hx; cases hx)]
    exact hx⟩
theorem lookL_drop : ∀ (L : List Lv) (t t' g k : Nat) (xs : List AV), lookL (dropL L t) t' g k = some xs → t' ≠ t ∧ lookL L t' g k = some xs
  | [], _, _, _, _, _, h => by simp [dropL, lookL] at h
  | v :: r, t, t', g, k, xs, h => by
    simp only [dropL] at h
    split at h
    · rename_i h1
      obtain ⟨h2, h3⟩ := lookL_drop r t t' g k xs h
      exact ⟨h2, by simp only [lookL]; rw [if_neg (by omega)]; exact h3⟩
    · rename_i h1
      simp only [lookL] at h ⊢
      split at h
      · rename_i h2
        rw [if_pos h2]; exact ⟨by omega, h⟩
      · rename_i h2
        rw [if_neg h2]; exact lookL_drop r t t' g k xs h
theorem lookL_set : ∀ (L : List Lv) {t g k : Nat} {xs : List AV}, lookL L t g k = some xs → ∀ (xs' : List AV) (t' g' k' : Nat) (ys : List AV), lookL (setL L t xs') t' g' k' = some ys → (t' = t ∧ g' = g ∧ k' = k ∧ ys = xs') ∨ (t' ≠ t ∧ lookL L t' g' k' = some ys)
  | [], _, _, _, _, h, _, _, _, _, _, _ => by simp [lookL] at h
  | v :: r, t, g, k, xs, h, xs', t', g', k', ys, hy => by
    simp only [lookL] at h
    simp only [setL] at hy
    split at h
    · rename_i h1
      split at h
      · rename_i h2
        rw [if_pos h1] at hy
        simp only [lookL] at hy ⊢
        split at hy
        · rename_i h3
          split at hy
          · rename_i h4
            cases hy
            exact .inl ⟨by omega, by omega, by omega, rfl⟩
          · cases hy
        · rename_i h3
          exact .inr ⟨by omega, by rw [if_neg h3]; exact hy⟩
      · cases h
    · rename_i h1
      rw [if_neg h1] at hy
      simp only [lookL] at hy ⊢
      split at hy
      · rename_i h2
        exact .inr ⟨by omega, by rw [if_pos h2]; exact hy⟩
      · rename_i h2
        rcases lookL_set r h xs' t' g' k' ys hy with h3 | h3
        · exact .inl h3
        · exact .inr ⟨h3.1, by rw [if_neg h2]; exact h3.2⟩
theorem LocR.mono {ρ ρ' : Rn} {w w' : World} {v : Lv} (h : LocR ρ w v) (hl : ρ.LeL ρ') (hw : ∀ b z, ρ.lo v.t v.g = some (b, z) → w'.heap[b]? = w.heap[b]?) : LocR ρ' w' v := by
  obtain ⟨b, z, h1, h2⟩ := h
  refine ⟨b, z, hl.lo _ _ _ h1, ?_⟩
  split at h2
  · obtain ⟨r1, c, ty, r2, r3, r4⟩ := h2
    exact ⟨r1, c, ty, (hw b z h1).trans r2, r3, r4.mono fun _ _ => VA.mono hl.toLe⟩
  · obtain ⟨l, n, r1, r2⟩ := h2
    exact ⟨l, n, r1, (hw b z h1).trans r2⟩
theorem MemR.glob_of {ρ' : Rn} (hm : MemR B ρ M w) (h2 : ρ.LeL ρ') : ∀ g, g < B.G → ∃ p, p ∈ ρ'.pl g ∧ p.b = g ∧ p.o = 0 ∧ p.s = 0 := fun g hg => by
  obtain ⟨p, p1, p2, p3, p4⟩ := hm.glob g hg
  obtain ⟨p', k1, k2, k3, k4, k5, -⟩ := h2.pl g p p1
  exact ⟨p', k1, k2.trans p2, k3.trans p3, k5.trans p4⟩
theorem MemR.newLoc {w' : World} (hm : MemR B ρ M w) (t k z : Nat) (xs : List AV)
    (hsz : w'.heap.size = w.heap.size + 1) (hold : ∀ b, b < w.heap.size → w'.heap[b]? = w.heap[b]?) (hos : w'.os = w.os) (htp : w'.tape = w.tape) (hou : w'.output = w.output)
    (hnew : LocR (ρ.newL t M.g w.heap.size z) w' ⟨t, M.g, k, xs⟩) :
    MemR B (ρ.newL t M.g w.heap.size z) (M.newL t k xs) w' ∧ ρ.LeL (ρ.newL t M.g w.heap.size z) ∧ (ρ.newL t M.g w.heap.size z).lo t M.g = some (w.heap.size, z) := by
  have hle : ρ.LeL (ρ.newL t M.g w.heap.size z) := Rn.le_newL (hm.lof t M.g (Nat.le_refl _))
  refine ⟨⟨?_, fun t' g' k' ys hv => ?_, fun t' g' hg => ?_, fun t1 g1 t2 g2 b z1 z2 h1 h2 => ?_, fun t' g' b z' hl => ?_, hm.le.trans hle.toLe, fun b hb hn => ?_, fun b hb => ?_, by have := hm.sz; omega, hos.trans hm.os, htp.trans hm.tape, hou.trans hm.out, hm.glob_of hle⟩, hle, by simp [Rn.newL]⟩
  · exact hm.heap.of hle.toLe rfl rfl (by omega) (fun b hb hn => ⟨by simp only [Rn.newL]; rw [if_neg (by omega)], hold b hb⟩)
      (fun b hb => by simp only [Rn.newL]; rw [if_neg (by omega)]; exact hm.heap.bnd b (by omega))
      (fun b id hid => by
        simp only [Rn.newL] at hid
        split at hid
        · cases hid
        · exact hid)
  · simp only [Mem.newL, lookL] at hv
    split at hv
    · rename_i h1
      split at hv
      · rename_i h2
        cases hv
        rw [← h1, ← h2.1, ← h2.2]; exact hnew
      · cases hv
    · exact (hm.loc t' g' k' ys (lookL_drop _ _ _ _ _ _ hv).2).mono hle fun b z' hl => hold b (hm.lob _ _ _ _ hl).2.2
  · have hg' : M.g + 1 ≤ g' := hg
    simp only [Rn.newL]
    rw [if_neg (by omega)]
    exact hm.lof t' g' (by omega)
  · simp only [Rn.newL] at h1 h2
    split at h1 <;> split at h2
    · rename_i a1 a2; exact ⟨a1.1.trans a2.1.symm, a1.2.trans a2.2.symm⟩
    · cases h1; have := (hm.lob _ _ _ _ h2).2.2; omega
    · cases h2; have := (hm.lob _ _ _ _ h1).2.2; omega
    · exact hm.loi _ _ _ _ _ _ _ h1 h2
  · simp only [Rn.newL] at hl ⊢
    split at hl
    · cases hl
      exact ⟨if_pos rfl, hm.sz, by omega⟩
    · have hb := hm.lob _ _ _ _ hl
      exact ⟨by rw [if_neg (by omega)]; exact hb.1, hb.2.1, by omega⟩
  · have := hm.sz
    rw [hold b (by omega)]; exact hm.frame b hb hn
  · have := hm.sz
    simp only [Rn.newL]
    rw [if_neg (by omega)]
    exact hm.own b hb
theorem MemR.setLoc {w' : World} (hm : MemR B ρ M w) {t g k b z : Nat} {xs xs' : List AV} (hl : ρ.lo t g = some (b, z)) (hk : lookL M.l t g k = some xs)
    (hsz : w'.heap.size = w.heap.size) (hold : ∀ b', b' ≠ b → w'.heap[b']? = w.heap[b']?) (hos : w'.os = w.os) (htp : w'.tape = w.tape) (hou : w'.output = w.output)
    (hnew : LocR ρ w' ⟨t, g, k, xs'⟩) : MemR B ρ ⟨setL M.l t xs', M.g, M.h⟩ w' := by
  have hb := hm.lob _ _ _ _ hl
  refine ⟨?_, fun t' g' k' ys hv => ?_, hm.lof, hm.loi, fun t' g' b' z' hl' => by rw [hsz]; exact hm.lob _ _ _ _ hl', hm.le, fun b' hb' hn => ?_, hm.own, by rw [hsz]; exact hm.sz, hos.trans hm.os, htp.trans hm.tape, hou.trans hm.out, hm.glob⟩
  · exact hm.heap.of (.refl ρ) rfl rfl (by omega) (fun b' hb' hn => ⟨rfl, hold b' fun e => hn (by rw [e]; exact hb.1)⟩) (fun b' hb' => hm.heap.bnd b' (by omega)) fun _ _ h => h
  · rcases lookL_set _ hk xs' t' g' k' ys hv with ⟨rfl, rfl, rfl, rfl⟩ | ⟨hne, hv⟩
    · exact hnew
    · refine (hm.loc _ _ _ _ hv).mono (.refl ρ) fun b' z' hl' => hold b' fun e => hne ?_
      subst e
      exact (hm.loi _ _ _ _ _ _ _ hl' hl).1
  · rw [hold b' (by omega)]; exact hm.frame b' hb' hn
/-! A literal's parts. -/
theorem run_fill {place : Nat → Option (Nat × Nat)} : ∀ (parts : List (Nat × Nat × Opd)) (ps : List (Nat × Operand)) (F : List AV) (cells : Array Value), chkParts P place parts ps = true → fillC e F.length parts →
    (∀ q, q ∈ parts → ∀ z, chkX P q.2.2 z = true → VE ρ (evT e q.2.2) (a.eval z)) → All2 (VA ρ) F cells.toList →
    ∃ cells', Instr.fill place cells (ps.map fun x => (x.1, a.eval x.2)) = some cells' ∧ All2 (VA ρ) (fillP e F parts) cells'.toList
  | [], [], F, cells, _, _, _, h => ⟨cells, rfl, h⟩
  | (off, sz, x) :: r, (i, y) :: q, F, cells, hc, hk, hE, h => by
    simp only [chkParts, Bool.and_eq_true, beq_iff_eq] at hc
    obtain ⟨⟨h1, h2⟩, h3⟩ := hc
    obtain ⟨⟨k1, k2, k3⟩, k4⟩ := hk
    have hv := (hE (off, sz, x) (by simp) y h2).out k3
    have hlen := h.len
    have hsz : (a.eval y).cells.size = sz := by rw [← hv.size]; exact k1
    have hF : (setPart F off (evT e x)).length = F.length := by rw [setPart_eq, splice_len (by omega)]
    obtain ⟨cells', e1, e2⟩ := run_fill r q (setPart F off (evT e x)) (splice cells.toList off (a.eval y).cells.toList).toArray h3 (by rw [hF]; exact k4) (fun p hp => hE p (by simp [hp]))
      (by rw [List.toList_toArray]; exact h.splice hv.cells)
    refine ⟨cells', ?_, e2⟩
    rw [List.map_cons, fill_cons h1 hsz (by rw [hlen] at k2; simpa using k2)]
    exact e1
  | [], _ :: _, _, _, hc, _, _, _ => by simp [chkParts] at hc
  | _ :: _, [], _, _, hc, _, _, _ => by simp [chkParts] at hc
theorem run_fillE {z : Nat} : ∀ (parts : List (Nat × Opd)) (ps : List (Nat × Operand)) (xs : List AV) (cells : Array Value), chkEls P parts ps = true → fillEC e z xs.length parts →
    (∀ q, q ∈ parts → ∀ y, chkX P q.2 y = true → VE ρ (evT e q.2) (a.eval y)) → (∀ x, x ∈ xs → x.cells.length = z) → All2 (VA ρ) (flat xs) cells.toList →
    ∃ cells', Instr.fill (fun i => some (i * z, z)) cells (ps.map fun x => (x.1, a.eval x.2)) = some cells' ∧ All2 (VA ρ) (flat (fillE e xs parts)) cells'.toList ∧ (∀ x, x ∈ fillE e xs parts → x.cells.length = z) ∧ (fillE e xs parts).length = xs.length
  | [], [], xs, cells, _, _, _, hz, h => ⟨cells, rfl, h, hz, rfl⟩
  | (i, x) :: r, (j, y) :: q, xs, cells, hc, hk, hE, hz, h => by
    simp only [chkEls, Bool.and_eq_true, beq_iff_eq] at hc
    obtain ⟨⟨rfl, h2⟩, h3⟩ := hc
    obtain ⟨⟨k1, k2, k3⟩, k4⟩ := hk
    have hv := (hE (i, x) (by simp) y h2).out k3
    have hlen := h.len
    have hfl := flat_len hz
    have hsz : (a.eval y).cells.size = z := by rw [← hv.size]; exact k1
    have hb : (i + 1) * z ≤ xs.length * z := Nat.mul_le_mul_right _ k2
    rw [Nat.add_mul, Nat.one_mul] at hb
    have hz' : ∀ u', u' ∈ xs.set i (evT e x) → u'.cells.length = z := fun u' hu => by
      rcases List.mem_or_eq_of_mem_set hu with hu | rfl
      · exact hz u' hu
      · exact k1
    obtain ⟨cells', e1, e2, e3, e4⟩ := run_fillE r q (xs.set i (evT e x)) (splice cells.toList (i * z) (a.eval y).cells.toList).toArray h3 (by simpa using k4) (fun p hp => hE p (by simp [hp])) hz'
      (by rw [List.toList_toArray, flat_set i hz k2 k1]; exact h.splice hv.cells)
    refine ⟨cells', ?_, e2, e3, e4.trans (by simp)⟩
    rw [List.map_cons, fill_cons (off := i * z) (size := z) rfl hsz (by rw [← Array.length_toList, ← hlen, hfl]; exact hb)]
    exact e1
  | [], _ :: _, _, _, hc, _, _, _, _ => by simp [chkEls] at hc
  | _ :: _, [], _, _, hc, _, _, _, _ => by simp [chkEls] at hc
def opdsP : List (Nat × Nat × Opd) → List Opd
  | [] => []
  | (_, _, x) :: r => x :: opdsP r
def opdsE : List (Nat × Opd) → List Opd
  | [] => []
  | (_, x) :: r => x :: opdsE r
theorem mem_opdsP : ∀ {l : List (Nat × Nat × Opd)} {q : Nat × Nat × Opd}, q ∈ l → q.2.2 ∈ opdsP l
  | (a, b, x) :: r, q, h => by
    rcases List.mem_cons.1 h with rfl | h
    · simp [opdsP]
    · simp [opdsP, mem_opdsP h]
theorem mem_opdsE : ∀ {l : List (Nat × Opd)} {q : Nat × Opd}, q ∈ l → q.2 ∈ opdsE l
  | (a, x) :: r, q, h => by
    rcases List.mem_cons.1 h with rfl | h
    · simp [opdsE]
    · simp [opdsE, mem_opdsE h]
theorem map_parts (ps : Array (Nat × Operand)) : (ps.map fun (i, x) => (i, a.eval x)).toList = ps.toList.map fun x => (x.1, a.eval x.2) := by simp
theorem run_mapM {α β : Type} {f : α → Sem β} {g : α → β} : ∀ (l : List α), (∀ x, x ∈ l → (f x).run P w = .ok (g x) w) → (l.mapM f).run P w = .ok (l.map g) w
  | [], _ => by simp
  | x :: r, h => by
    have ih := run_mapM r fun y hy => h y (by simp [hy])
    simp [List.mapM_cons, h x (by simp), ih]
theorem fill_congr {p q : Nat → Option (Nat × Nat)} (h : ∀ i x, p i = some x → q i = some x) : ∀ (l : List (Nat × Value)) (cells cells' : Array Value), Instr.fill p cells l = some cells' → Instr.fill q cells l = some cells'
  | [], _, _, hf => hf
  | (i, v) :: r, cells, cells', hf => by
    simp only [Instr.fill] at hf ⊢
    cases hp : p i with
    | none => rw [hp] at hf; cases hf
    | some x =>
      obtain ⟨off, size⟩ := x
      rw [hp] at hf
      rw [h i _ hp]
      simp only at hf ⊢
      split at hf
      · cases hf
      · rename_i h1
        rw [if_neg h1]
        exact fill_congr h r _ _ hf
theorem sim_bd {d : Nat} {zero : List AV} {parts : List (Nat × Nat × Opd)} (hc : chkOp P (.bd d zero parts) o.op = true) (hk : fillC e zero.length parts) (hE : OE P ρ e a (opdsP parts)) (hm : MemR B ρ M w) :
    Sim P o a w (Out B ρ M (.ag (fillP e zero parts))) := by
  simp only [chkOp] at hc
  split at hc
  · rename_i t ps ho
    simp only [Bool.and_eq_true] at hc
    obtain ⟨⟨h1, h2⟩, h3⟩ := hc
    split at h1
    · rename_i zv hz
      obtain ⟨ys, rfl, hzr⟩ := (chkC_sound (ρ := ρ) h1 : V1 ρ (.ag zero) zv)
      obtain ⟨cells', e1, e2⟩ := run_fill (P := P) (a := a) parts ps.toList zero ys h3 hk (fun q hq y hy => hE _ y (mem_opdsP hq) hy) hzr
      refine Sim.value (v := .agg cells') ?_ (Out.same (VE.of (V2.of (show V1 ρ (.ag _) _ from ⟨_, rfl, e2⟩))) hm)
      simp only [execOp, ho, Sem.run_bind, Instr.build, run_zeT hz, Result.andThen_ok, map_parts]
      unfold fieldsSized at h2
      split at h2
      · rename_i fs hu
        have hplaces : ((fs.mapM fun f => do pure (f.offset, ← sizeOf f.type) : Sem (Array (Nat × Nat)))).run P w = .ok (fs.toList.map fun f => (f.offset, (szT P f.type).getD 0)).toArray w := by
          rw [Array.mapM_eq_mapM_toList, Sem.run_map, run_mapM (g := fun f => (f.offset, (szT P f.type).getD 0)) fs.toList]
          · rfl
          · intro f hf
            have := Array.all_eq_true_iff_forall_mem.1 h2 f (by simpa using hf)
            obtain ⟨n, hn⟩ := Option.isSome_iff_exists.1 this
            simp [run_sizeT hn, hn]
        have hfill : Instr.fill (fun i => (fs.toList.map fun f => (f.offset, (szT P f.type).getD 0)).toArray[i]?) ys (ps.toList.map fun x => (x.1, a.eval x.2)) = some cells' :=
          fill_congr (fun i x hx => by
            simp only [place, hu] at hx
            split at hx
            · rename_i f hf
              cases hs : szT P f.type with
              | none => rw [hs] at hx; cases hx
              | some n =>
                rw [hs] at hx
                simp only [Option.map_some, Option.some.injEq] at hx
                have hf' : fs.toList[i]? = some f := by simpa using hf
                simp [hf', hs, hx]
            · cases hx) _ _ _ e1
        simp only [run_und hu, Result.andThen_ok, Value.cells, hplaces, Sem.run_bind]
        rw [hfill]
        rfl
      · rename_i n el hu
        obtain ⟨z, hzz⟩ := Option.isSome_iff_exists.1 h2
        have hfill : Instr.fill (fun i => some (i * z, z)) ys (ps.toList.map fun x => (x.1, a.eval x.2)) = some cells' :=
          fill_congr (fun i x hx => by simpa [place, hu, hzz] using hx) _ _ _ e1
        simp only [run_und hu, Result.andThen_ok, Value.cells, run_sizeT hzz, Sem.run_bind]
        rw [hfill]
        rfl
      · cases h2
    · cases h1
  · cases hc
end ops
end Go.Vm
