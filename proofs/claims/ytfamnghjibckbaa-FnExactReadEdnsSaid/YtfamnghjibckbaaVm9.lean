/- What an operation of the abstract machine means for Go's own: new variables, literals, stores. -/
import Derived.Test.YtfamnghjibckbaaVm8
namespace Go.Vm
set_option linter.unusedVariables false
set_option linter.unusedSimpArgs false
section ops
variable {P : Program} {B : Base} {C : Tab} {ρ : Rn} {M : Mem} {w : World} {e : Env} {a : Act} {o : Oper}
theorem run_alloc {t : TypeId} {v : Value} (ho : o.op = .alloc t) (hz : zeT P t = some v) :
    (execOp a.eval o).run P w = .ok (.value (.pointer (some ⟨w.heap.size, 0, none⟩))) (w.alloc (.cells v.cells t)) := by
  simp [execOp, ho, Instr.alloc, run_zeT hz, newVar, newRow]
theorem run_box {t : TypeId} {x : Operand} (ho : o.op = .box t x) :
    (execOp a.eval o).run P w = .ok (.value (.pointer (some ⟨w.heap.size, 0, none⟩))) (w.alloc (.cells (a.eval x).cells t)) := by
  simp [execOp, ho, Instr.box, newVar, newRow]
theorem newVar_loc {d : Nat} {x : AV} {v : Value} {t : TypeId} (hm : MemR B ρ M w) (hv : V1 ρ x v) :
    MemR B (ρ.newL d M.g w.heap.size x.cells.length) (M.newL d 0 [x]) (w.alloc (.cells v.cells t)) ∧ ρ.LeL (ρ.newL d M.g w.heap.size x.cells.length) ∧ (ρ.newL d M.g w.heap.size x.cells.length).lo d M.g = some (w.heap.size, x.cells.length) := by
  have hle : ρ.LeL (ρ.newL d M.g w.heap.size x.cells.length) := Rn.le_newL (hm.lof d M.g (Nat.le_refl _))
  refine hm.newLoc d 0 x.cells.length [x] (by simp) (fun b hb => heap_alloc_lt _ _ b hb) rfl rfl rfl ?_
  refine ⟨w.heap.size, x.cells.length, by simp [Rn.newL], ?_⟩
  refine ⟨fun y hy => ?_, v.cells, t, heap_alloc_new _ _, ?_, ?_⟩
  · simp only [List.mem_singleton] at hy; rw [hy]
  · simp [hv.size]
  · simp only [flat, List.append_nil]
    exact hv.cells.mono fun _ _ => VA.mono hle.toLe
theorem sim_lal {d : Nat} {zero : AV} (hc : chkOp P (.lal d zero) o.op = true) (hm : MemR B ρ M w) :
    Sim P o a w (Out B ρ (M.newL d 0 [zero]) (.la d M.g 0 0)) := by
  simp only [chkOp] at hc
  split at hc
  · rename_i t ho
    split at hc
    · rename_i v hz
      obtain ⟨h1, h2, h3⟩ := newVar_loc (d := d) (t := t) hm (chkC_sound hc)
      exact Sim.value (run_alloc ho hz) ⟨_, h2, (show VE _ (.la d M.g 0 0) _ from ⟨_, _, h3, by simp⟩), h1⟩
    · cases hc
  · cases hc
theorem sim_lbx {d : Nat} {x : Opd} (hc : chkOp P (.lbx d x) o.op = true) (hk : (evT e x).outs = true) (hE : OE P ρ e a [x]) (hm : MemR B ρ M w) :
    Sim P o a w (Out B ρ (M.newL d 0 [evT e x]) (.la d M.g 0 0)) := by
  simp only [chkOp] at hc
  split at hc
  · rename_i t x' ho
    obtain ⟨h1, h2, h3⟩ := newVar_loc (d := d) (t := t) hm ((hE x x' (by simp) hc).out hk)
    exact Sim.value (run_box ho) ⟨_, h2, (show VE _ (.la d M.g 0 0) _ from ⟨_, _, h3, by simp⟩), h1⟩
  · cases hc
theorem newVar_heap {x : List AV} {z : Nat} {v : Value} {t : TypeId} (hm : MemR B ρ M w) (hz : ∀ y, y ∈ x → y.cells.length = z) (hv : All2 (VA ρ) (flat x) v.cells.toList) :
    ∃ ρ', ρ.LeL ρ' ∧ VP ρ' (.pv M.h.n 0) (.pointer (some ⟨w.heap.size, 0, none⟩)) ∧ MemR B ρ' ⟨M.l, M.g, M.h.new (.arr true 0 z x)⟩ (w.alloc (.cells v.cells t)) := by
  have hfl := flat_len hz
  have hlen := hv.len
  have hsz : x.length * z = v.cells.size := by rw [← hfl, hlen, Array.length_toList]
  obtain ⟨h1, h2, h3⟩ := hm.newArr v.cells t (0, 0) z x (w' := w.alloc (.cells v.cells t)) (by simp) (fun b hb => heap_alloc_lt _ _ b hb) (heap_alloc_new _ _) rfl rfl rfl (fun i hi => by simp) hz (by omega)
    (by rw [List.take_of_length_le (by rw [Array.length_toList]; omega)]; exact hv)
  exact ⟨_, h2, ⟨_, h3, rfl, rfl⟩, h1⟩
theorem sim_al {d z : Nat} {xs : List AV} (hc : chkOp P (.al d z xs) o.op = true) (hm : MemR B ρ M w) :
    Sim P o a w (Out B ρ ⟨M.l, M.g, M.h.new (.arr true 0 z xs)⟩ (.pv M.h.n 0)) := by
  simp only [chkOp] at hc
  split at hc
  · rename_i t ho
    split at hc
    · rename_i v hz
      simp only [Bool.and_eq_true] at hc
      obtain ⟨h1, h2⟩ := hc
      obtain ⟨ys, hy, hr⟩ := (chkC_sound (ρ := ρ) h1 : V1 ρ (.ag (flat xs)) (.agg v.cells))
      cases hy
      have hz' : ∀ y, y ∈ xs → y.cells.length = z := fun y hy => by
        have := List.all_eq_true.1 h2 y hy
        simp only [Bool.and_eq_true, beq_iff_eq] at this
        exact this.2
      obtain ⟨ρ', k1, k2, k3⟩ := newVar_heap (t := t) hm hz' hr
      exact Sim.value (run_alloc ho hz) ⟨ρ', k1, VE.of (V2.of (V1.of (VA.of k2))), k3⟩
    · cases hc
  · cases hc
theorem sim_bx {d : Nat} {x : Opd} (hc : chkOp P (.bx d x) o.op = true) (hk : (evT e x).outs = true) (hE : OE P ρ e a [x]) (hm : MemR B ρ M w) :
    Sim P o a w (Out B ρ ⟨M.l, M.g, M.h.new (.arr true 0 (evT e x).cells.length [evT e x])⟩ (.pv M.h.n 0)) := by
  simp only [chkOp] at hc
  split at hc
  · rename_i t x' ho
    have hv := (hE x x' (by simp) hc).out hk
    obtain ⟨ρ', k1, k2, k3⟩ := newVar_heap (t := t) (x := [evT e x]) (z := (evT e x).cells.length) hm (by simp) (by simpa [flat] using hv.cells)
    exact Sim.value (run_box ho) ⟨ρ', k1, VE.of (V2.of (V1.of (VA.of k2))), k3⟩
  · cases hc
/-- Rows of one value. -/
theorem flat_rep (x : AV) : ∀ n, flat (List.replicate n x) = (List.replicate n x.cells).flatten
  | 0 => rfl
  | n + 1 => by simp [List.replicate_succ, flat, flat_rep x n]
theorem made_rep {z : Array Value} (hz : 0 < z.size) : ∀ n, (madeCells z (n * z.size)).toList = (List.replicate n z.toList).flatten := by
  intro n
  apply List.ext_getElem?
  intro i
  have hl : ((List.replicate n z.toList).flatten).length = n * z.size := by simp
  by_cases hi : i < n * z.size
  · have h1 : (madeCells z (n * z.size)).toList[i]? = some (z[i % z.size]!) := by simp [madeCells, hi]
    rw [h1]
    induction n generalizing i with
    | zero => simp at hi
    | succ n ih =>
      rw [List.replicate_succ, List.flatten_cons]
      by_cases h : i < z.size
      · rw [List.getElem?_append_left (by simpa using h), Nat.mod_eq_of_lt h]
        simp [h]
      · rw [List.getElem?_append_right (by simpa using Nat.le_of_not_lt h)]
        have hi' : i - z.size < n * z.size := by rw [Nat.add_mul, Nat.one_mul] at hi; omega
        have := ih (i - z.size) (by simp) hi' (by simp [madeCells, hi'])
        rw [Array.length_toList, ← this, Nat.mod_eq_sub_mod (Nat.le_of_not_lt h)]
  · rw [List.getElem?_eq_none (by simp [madeCells]; omega), List.getElem?_eq_none (by rw [hl]; omega)]
theorem All2.flatten {α β : Type} {R : α → β → Prop} {x : List α} {y : List β} (h : All2 R x y) : ∀ n, All2 R (List.replicate n x).flatten (List.replicate n y).flatten
  | 0 => trivial
  | n + 1 => by simp only [List.replicate_succ, List.flatten_cons]; exact h.append (All2.flatten h n)
theorem made_rel {zero : AV} {v : Value} {z : Nat} (hv : V1 ρ zero v) (hz : zero.cells.length = z) (h0 : z ≠ 0) (n : Nat) : All2 (VA ρ) (flat (List.replicate n zero)) (madeCells v.cells (n * z)).toList := by
  have hs := hv.size
  rw [flat_rep, ← hz, hs, made_rep (by omega) n]
  exact hv.cells.flatten n
theorem run_bslice {t el : TypeId} {len z : Nat} {ps : Array (Nat × Operand)} {v : Value} {cells' : Array Value} (ho : o.op = .buildSlice t len ps) (hu : P.underlying t = some (.slice el)) (hz : szT P el = some z) (hzv : zeT P el = some v)
    (hsm : len * z ≤ 65536) (hf : Instr.fill (fun i => some (i * z, z)) (madeCells v.cells (len * z)) (ps.toList.map fun x => (x.1, a.eval x.2)) = some cells') :
    (execOp a.eval o).run P w = .ok (.value (.slice (some ⟨w.heap.size, 0, none⟩) len len)) (w.alloc (.cells cells' el)) := by
  by_cases h0 : len * z = 0
  · have h1 : madeCells v.cells (len * z) = (Array.range (len * z)).map ((#[] : Array Value)[· % (#[] : Array Value).size]!) := by rw [h0]; simp [madeCells]
    rw [h1, h0] at hf
    have hn : ¬ 0 > 2 ^ 24 := by decide
    simp only [execOp, ho, Sem.run_bind, Instr.buildSlice, run_und hu, run_sizeT hz, Result.andThen_ok, h0, map_parts]
    rw [if_neg hn]
    simp only [if_true, Sem.run_pure, Sem.run_bind, Result.andThen_ok]
    rw [hf]
    simp [newRow]
  · have hn : ¬ len * z > 2 ^ 24 := by omega
    simp only [execOp, ho, Sem.run_bind, Instr.buildSlice, run_und hu, run_sizeT hz, Result.andThen_ok, map_parts]
    rw [if_neg hn, if_neg h0]
    simp only [Sem.run_pure, Sem.run_bind, Result.andThen_ok, run_zeT hzv]
    simp only [madeCells] at hf
    rw [hf]
    simp [newRow]
theorem chk_bs {d len z : Nat} {zero : AV} {parts : List (Nat × Opd)} (hc : chkOp P (.bs d zero z len parts) o.op = true) :
    ∃ t ps el v, o.op = .buildSlice t len ps ∧ len * z ≤ 65536 ∧ z ≠ 0 ∧ chkEls P parts ps.toList = true ∧ P.underlying t = some (.slice el) ∧ szT P el = some z ∧ zeT P el = some v ∧ chkC zero v = true ∧ zero.cells.length = z := by
  simp only [chkOp] at hc
  split at hc
  · rename_i t l ps ho
    simp only [Bool.and_eq_true, beq_iff_eq, bne_iff_ne, decide_eq_true_eq] at hc
    obtain ⟨⟨⟨⟨rfl, h1⟩, h2⟩, h3⟩, h4⟩ := hc
    split at h4
    · rename_i el hel
      simp only [Bool.and_eq_true, beq_iff_eq] at h4
      obtain ⟨h5, h6⟩ := h4
      split at h6
      · rename_i v hv
        simp only [Bool.and_eq_true, beq_iff_eq] at h6
        exact ⟨t, ps, el, v, ho, h1, h2, h3, elT_und hel, h5, hv, h6.1, h6.2⟩
      · cases h6
    · cases h4
  · cases hc
theorem rep_z {zero : AV} {z n : Nat} (h : zero.cells.length = z) : ∀ x, x ∈ List.replicate n zero → x.cells.length = z := fun x hx => by rw [(List.mem_replicate.1 hx).2]; exact h
theorem sim_bs {d len z : Nat} {zero : AV} {parts : List (Nat × Opd)} (hc : chkOp P (.bs d zero z len parts) o.op = true) (hk : fillEC e z len parts) (hE : OE P ρ e a (opdsE parts)) (hm : MemR B ρ M w) :
    Sim P o a w (Out B ρ ⟨M.l, M.g, M.h.new (.arr true 0 z (fillE e (List.replicate len zero) parts))⟩ (.sl M.h.n 0 len)) := by
  obtain ⟨t, ps, el, v, ho, h1, h2, h3, hu, hz, hzv, h4, h5⟩ := chk_bs hc
  have hmade := made_rel (ρ := ρ) (chkC_sound h4) h5 h2 len
  obtain ⟨cells', e1, e2, e3, e4⟩ := run_fillE (P := P) (a := a) parts ps.toList (List.replicate len zero) _ h3 (by simpa using hk) (fun q hq y hy => hE _ y (mem_opdsE hq) hy) (rep_z h5) hmade
  have hce : cells'.size = (fillE e (List.replicate len zero) parts).length * z := by have := e2.len; rw [flat_len e3, Array.length_toList] at this; exact this.symm
  have hlen : (fillE e (List.replicate len zero) parts).length = len := by simpa using e4
  obtain ⟨k1, k2, k3⟩ := hm.newArr cells' el (0, 0) z (fillE e (List.replicate len zero) parts) (w' := w.alloc (.cells cells' el)) (by simp) (fun b hb => heap_alloc_lt _ _ b hb) (heap_alloc_new _ _) rfl rfl rfl (fun i hi => by simp) e3
    (by rw [hce]; exact Nat.le_refl _) (by rw [List.take_of_length_le (by rw [Array.length_toList, hce]; exact Nat.le_refl _)]; exact e2)
  have hcs : cells'.size = len * z := by rw [hce, hlen]
  refine Sim.value (run_bslice ho hu hz hzv h1 e1) ⟨_, k2, VE.of (V2.of (V1.of (VA.of (show VP _ (.sl M.h.n 0 len) _ from ⟨_, k3, Nat.le_refl _, by simp [hlen], 0, len, Nat.le_refl _, .inl (by simp), .inr (by simp [hcs]), rfl⟩)))), k1⟩
theorem sim_lbs {d len z : Nat} {zero : AV} {parts : List (Nat × Opd)} (hc : chkOp P (.lbs d zero z len parts) o.op = true) (hk : fillEC e z len parts) (hE : OE P ρ e a (opdsE parts)) (hm : MemR B ρ M w) :
    Sim P o a w (Out B ρ (M.newL d 0 (fillE e (List.replicate len zero) parts)) (.ll d M.g z len)) := by
  obtain ⟨t, ps, el, v, ho, h1, h2, h3, hu, hz, hzv, h4, h5⟩ := chk_bs (d := d) hc
  have hmade := made_rel (ρ := ρ) (chkC_sound h4) h5 h2 len
  obtain ⟨cells', e1, e2, e3, e4⟩ := run_fillE (P := P) (a := a) parts ps.toList (List.replicate len zero) _ h3 (by simpa using hk) (fun q hq y hy => hE _ y (mem_opdsE hq) hy) (rep_z h5) hmade
  have hce : cells'.size = (fillE e (List.replicate len zero) parts).length * z := by have := e2.len; rw [flat_len e3, Array.length_toList] at this; exact this.symm
  have hle : ρ.LeL (ρ.newL d M.g w.heap.size z) := Rn.le_newL (hm.lof d M.g (Nat.le_refl _))
  obtain ⟨k1, k2, k3⟩ := hm.newLoc (w' := w.alloc (.cells cells' el)) d 0 z (fillE e (List.replicate len zero) parts) (by simp) (fun b hb => heap_alloc_lt _ _ b hb) rfl rfl rfl
    ⟨w.heap.size, z, by simp [Rn.newL], e3, cells', el, heap_alloc_new _ _, hce, e2.mono fun _ _ => VA.mono hle.toLe⟩
  exact Sim.value (run_bslice ho hu hz hzv h1 e1) ⟨_, k2, (show VE _ (.ll d M.g z len) _ from ⟨_, k3, rfl⟩), k1⟩
theorem sim_mk {d z by' : Nat} {zero : AV} {x : Opd} (hc : chkOp P (.mk d zero z by' x) o.op = true) (hk : (evT e x).isI = true ∧ 0 ≤ (evT e x).toI ∧ (evT e x).toI * by' ≤ 281474976710656 ∧ (evT e x).toI ≤ 9223372036854775807)
    (hE : OE P ρ e a [x]) (hm : MemR B ρ M w) :
    Sim P o a w (Out B ρ ⟨M.l, M.g, M.h.new (.arr true 0 z (List.replicate (evT e x).toI.toNat zero))⟩ (.sl M.h.n 0 (evT e x).toI.toNat)) := by
  simp only [chkOp] at hc
  split at hc
  · rename_i t l c ho
    simp only [Bool.and_eq_true, bne_iff_ne] at hc
    obtain ⟨⟨⟨h1, h2⟩, h3⟩, h4⟩ := hc
    split at h4
    · rename_i el hel
      simp only [Bool.and_eq_true, beq_iff_eq] at h4
      obtain ⟨⟨h5, h6⟩, h7⟩ := h4
      split at h7
      · rename_i v hv
        simp only [Bool.and_eq_true, beq_iff_eq] at h7
        obtain ⟨i, hi, hsz⟩ := szT_info h5
        have hby : i.bytes = by' := by unfold byT at h6; rw [hi] at h6; simpa using h6
        have hzi : i.zero = some v := by unfold zeT at hv; rw [hi] at hv; simpa using hv
        obtain ⟨k1, k2, k3, k4⟩ := hk
        have hx1 := ((hE x l (by simp) h1).int k1).2
        have hx2 := ((hE x c (by simp) h2).int k1).2
        have hrun := run_make w t el i v (elT_und hel) hi hzi (evT e x).toK (evT e x).toK (evT e x).toI (evT e x).toI k2 (Int.le_refl _) (by rw [hby, Int.mul_comm]; exact k3) k4
        rw [hsz] at hrun
        generalize (evT e x).toI.toNat = n at *
        have hmade := made_rel (ρ := ρ) (chkC_sound h7.1) h7.2 h3 n
        obtain ⟨q1, q2, q3⟩ := hm.newArr (madeCells v.cells (n * z)) el (0, 0) z (List.replicate n zero) (w' := w.alloc (.cells (madeCells v.cells (n * z)) el)) (by simp) (fun b hb => heap_alloc_lt _ _ b hb) (heap_alloc_new _ _) rfl rfl rfl (fun i hi => by simp) (rep_z h7.2)
          (by simp [size_madeCells]) (by rw [List.take_of_length_le (by simp [size_madeCells])]; exact hmade)
        refine Sim.value (v := .slice (some ⟨w.heap.size, 0, none⟩) n n) ?_ ⟨_, q2, VE.of (V2.of (V1.of (VA.of (show VP _ (.sl M.h.n 0 n) _ from ⟨_, q3, Nat.le_refl _, by simp, 0, n, Nat.le_refl _, .inl (by simp), .inr (by simp [size_madeCells]), rfl⟩)))), q1⟩
        simp [execOp, ho, hx1, hx2, hrun]
      · cases h7
    · cases h4
  · cases hc
end ops
end Go.Vm
