/- Rows of cells: cut, joined, loaded, stored. -/
import Derived.Test.YtfamnghjibckbaaVm5
import Derived.Laws.MakeOwn
import Derived.Laws.BytesString
namespace Go.Vm
set_option linter.unusedVariables false
set_option linter.unusedSimpArgs false

def splice {α : Type} (l : List α) (k : Nat) (m : List α) : List α := l.take k ++ m ++ l.drop (k + m.length)
section
variable {α β : Type}
theorem splice_len {l : List α} {k : Nat} {m : List α} (h : k + m.length ≤ l.length) : (splice l k m).length = l.length := by
  simp [splice]; omega
theorem splice_nil (l : List α) (k : Nat) : splice l k [] = l := by simp [splice]
theorem splice_drop {l : List α} {k o : Nat} {m : List α} (h : o ≤ l.length) : (splice l (o + k) m).drop o = splice (l.drop o) k m := by
  have h1 : l.take (o + k) = l.take o ++ (l.drop o).take k := List.take_add
  simp only [splice, h1, List.append_assoc]
  rw [List.drop_append_of_le_length (by simp; omega), List.drop_of_length_le (by simp; omega), List.nil_append, List.drop_drop]
  congr 3; omega
theorem splice_take {l : List α} {k n : Nat} {m : List α} (h : k + m.length ≤ n) (hl : k ≤ l.length) : (splice l k m).take n = splice (l.take n) k m := by
  simp only [splice]
  rw [List.append_assoc, List.take_append, List.take_append, List.take_take, List.take_take, Nat.min_eq_right (by omega), Nat.min_eq_left (by omega)]
  simp only [List.length_take, Nat.min_eq_left hl]
  rw [List.take_of_length_le (l := m) (by omega), List.append_assoc]
  congr 2
  rw [List.drop_take]
  congr 1; omega
theorem splice_take_le {l : List α} {k n : Nat} {m : List α} (h : n ≤ k) (hl : k ≤ l.length) : (splice l k m).take n = l.take n := by
  simp only [splice]
  rw [List.append_assoc, List.take_append_of_le_length (by simp; omega), List.take_take, Nat.min_eq_left h]
theorem splice_mid {l : List α} {k : Nat} {m : List α} (hl : k ≤ l.length) : ((splice l k m).drop k).take m.length = m := by
  simp only [splice]
  rw [List.append_assoc, List.drop_append_of_le_length (by simp; omega), List.drop_of_length_le (by simp; omega), List.nil_append, List.take_left]
theorem mem_splice {l : List α} {k : Nat} {m : List α} {x : α} (h : x ∈ splice l k m) : x ∈ l ∨ x ∈ m := by
  simp only [splice, List.mem_append] at h
  rcases h with (h | h) | h
  · exact .inl (List.mem_of_mem_take h)
  · exact .inr h
  · exact .inl (List.mem_of_mem_drop h)
theorem All2.splice {R : α → β → Prop} {l : List α} {m : List β} {k : Nat} {x : List α} {y : List β} (h : All2 R l m) (h' : All2 R x y) : All2 R (splice l k x) (splice m k y) := by
  unfold Vm.splice
  rw [h'.len]
  exact ((h.take k).append h').append (h.drop _)
end
theorem setPart_eq (cs : List AV) (off : Nat) (v : AV) : setPart cs off v = splice cs off v.cells := rfl
/-- A value whose cells are atoms. -/
def flatV (v : AV) : Prop := ∀ y, y ∈ v.cells → y.cells = [y]
theorem V1.flatV {ρ : Rn} {a : AV} {v : Value} (h : V1 ρ a v) : Vm.flatV a := by
  intro y hy
  obtain ⟨i, hi⟩ := List.getElem?_of_mem hy
  obtain ⟨u, -, hu⟩ := h.cells.get i y hi
  exact hu.one.2.2
theorem setEl_cells {x v : AV} {off : Nat} (hv : flatV v) (h : off + v.cells.length ≤ x.cells.length) : (setEl x off v).cells = splice x.cells off v.cells := by
  by_cases hx : ∃ cs, x = .ag cs
  · obtain ⟨cs, rfl⟩ := hx; rfl
  · have hc : x.cells = [x] := by cases x <;> first | rfl | exact absurd ⟨_, rfl⟩ hx
    have he : setEl x off v = (match v.cells with | [y] => y | _ => x) := by cases x <;> first | rfl | exact absurd ⟨_, rfl⟩ hx
    rw [he, hc]
    rw [hc] at h
    cases hvc : v.cells with
    | nil => simp only; rw [hc]; simp [splice]
    | cons y r =>
      cases r with
      | nil =>
        rw [hvc] at h
        have h0 : off = 0 := by simp at h; omega
        subst h0
        have := hv y (by rw [hvc]; simp)
        simp only
        rw [this]; simp [splice]
      | cons y' r' => rw [hvc] at h; exfalso; simp at h; omega
theorem flat_set {z : Nat} : ∀ (ix : Nat) {xs : List AV} {x : AV}, (∀ x, x ∈ xs → x.cells.length = z) → ix < xs.length → x.cells.length = z → flat (xs.set ix x) = splice (flat xs) (ix * z) x.cells
  | 0, y :: r, x, h, _, hx => by
    have hy := h y (by simp)
    simp only [List.set_cons_zero, flat, splice, Nat.zero_mul, List.take_zero, List.nil_append, Nat.zero_add]
    rw [hx, ← hy, List.drop_left]
  | ix + 1, y :: r, x, h, hl, hx => by
    have hy := h y (by simp)
    simp only [List.set_cons_succ, flat]
    rw [flat_set ix (fun q hq => h q (by simp [hq])) (by simpa using hl) hx]
    simp only [splice, Nat.add_mul, Nat.one_mul]
    rw [Nat.add_comm (ix * z) z, Nat.add_assoc, ← hy, List.take_length_add_append, List.drop_length_add_append]
    simp only [List.append_assoc]
  | _, [], _, _, hl, _ => by simp at hl
theorem splice_splice {α : Type} {l : List α} {k off n : Nat} {m : List α} (hl : k + n ≤ l.length) (hm : off + m.length ≤ n) : splice l k (splice ((l.drop k).take n) off m) = splice l (k + off) m := by
  have e1 : (splice ((l.drop k).take n) off m).length = n := by rw [splice_len (by simp; omega)]; simp; omega
  show l.take k ++ splice ((l.drop k).take n) off m ++ l.drop (k + (splice ((l.drop k).take n) off m).length) = _
  rw [e1]
  unfold splice
  have h2 : l.take (k + off) = l.take k ++ (l.drop k).take off := List.take_add
  rw [h2, List.take_take, Nat.min_eq_left (by omega), List.drop_take, List.drop_drop]
  simp only [List.append_assoc]
  congr 3
  have h3 : l.drop (k + (off + m.length)) = (l.drop (k + (off + m.length))).take (n - (off + m.length)) ++ (l.drop (k + (off + m.length))).drop (n - (off + m.length)) := (List.take_append_drop _ _).symm
  rw [show k + off + m.length = k + (off + m.length) by omega]
  conv => rhs; rw [h3, List.drop_drop]
  rw [show k + (off + m.length) + (n - (off + m.length)) = k + n by omega]
/-- An element's part turned: the row's cells. -/
theorem flat_setEl {z ix off : Nat} {xs : List AV} {v : AV} (h : ∀ x, x ∈ xs → x.cells.length = z) (hi : ix < xs.length) (hv : flatV v) (hf : off + v.cells.length ≤ (xs.getD ix .u).cells.length) :
    flat (xs.set ix (setEl (xs.getD ix .u) off v)) = splice (flat xs) (ix * z + off) v.cells ∧ (setEl (xs.getD ix .u) off v).cells.length = z := by
  have hg := flat_getD ix h hi
  have hxz : (xs.getD ix .u).cells.length = z := by
    simp only [List.getD, List.getElem?_eq_getElem hi, Option.getD_some]
    exact h _ (List.getElem_mem hi)
  have hc := setEl_cells hv hf
  have hlen : (setEl (xs.getD ix .u) off v).cells.length = z := by rw [hc, splice_len hf, hxz]
  refine ⟨?_, hlen⟩
  rw [flat_set ix h hi hlen, hc, hg]
  have hfl := flat_len h
  have : (ix + 1) * z ≤ xs.length * z := Nat.mul_le_mul_right z hi
  rw [Nat.add_mul, Nat.one_mul] at this
  exact splice_splice (by omega) (by rw [hxz] at hf; exact hf)

section rows
variable {P : Program} {w : World}
theorem cell_row {b j : Nat} {c : Array Value} {ty : TypeId} {fz : Nat × Nat} (h : w.heap[b]? = some (.cells c ty fz)) : w.cell? ⟨b, j, none⟩ = c[j]? := by
  simp [World.cell?, h]
theorem run_loadRow {b off n : Nat} {c : Array Value} {ty : TypeId} {fz : Nat × Nat} (hb : w.heap[b]? = some (.cells c ty fz)) (hn : n = 0 ∨ off + n ≤ c.size) :
    (loadCells ⟨b, off, none⟩ n).run P w = .ok ((c.toList.drop off).take n).toArray w := by
  rcases hn with rfl | hn
  · simp [loadCells, loadCellsFrom]
  have hl : ((c.toList.drop off).take n).length = n := by simp; omega
  have := run_loadCells_list (P := P) w ⟨b, off, none⟩ ((c.toList.drop off).take n) (fun j v hj => by
    rw [add_eq, cell_row hb]
    rw [List.getElem?_take] at hj
    split at hj
    · simpa using hj
    · cases hj)
  rwa [hl] at this
theorem run_storeRow {b off : Nat} {ty : TypeId} {fz : Nat × Nat} : ∀ (vs : List Value) (i : Nat) {c : Array Value} {w : World}, w.heap[b]? = some (.cells c ty fz) → (∀ j, j < c.size → ¬ (fz.1 ≤ j ∧ j < fz.2)) →
    off + i + vs.length ≤ c.size → (∀ v, v ∈ vs → v.oneCell' = true) →
    (storeCells ⟨b, off, none⟩ vs i).run P w = .ok () (w.setRow b (splice c.toList (off + i) vs).toArray)
  | [], i, c, w, hg, _, _, _ => by
    rw [splice_nil, Array.toArray_toList, setRow_self w b c ty fz hg]
    rfl
  | v :: rest, i, c, w, hg, hfz, hl, h1 => by
    have hi : off + i < c.size := by simp at hl; omega
    have hcell : w.cell? ⟨b, off + i, none⟩ = some c[off + i] := by simp [World.cell?, hg, hi]
    have hfro : w.frozen? ⟨b, off + i, none⟩ = false := by
      have := hfz (off + i) hi
      obtain ⟨lo, hi'⟩ := fz
      simp only [World.frozen?, hg, Bool.and_eq_false_iff, decide_eq_false_iff_not]
      simp only at this
      omega
    have hst : (store ((⟨b, off, none⟩ : Addr).add i) v).run P w = .ok () (w.setRow b (c.setIfInBounds (off + i) v)) := by
      rw [add_eq, run_store P w _ v _ (h1 v (by simp)), hcell]
      simp [hfro, setCell_eq_setRow w b (off + i) c ty fz v hg]
    have ih := run_storeRow (off := off) (b := b) rest (i + 1) (c := c.setIfInBounds (off + i) v) (w := w.setRow b (c.setIfInBounds (off + i) v)) (setRow_heap w b c _ ty _ hg) (by simpa using hfz) (by simp at hl ⊢; omega) (fun x hx => h1 x (by simp [hx]))
    simp only [storeCells, Sem.run_bind, hst, Result.andThen_ok, ih, setRow_setRow]
    congr 3
    have e := list_seg_step c.toList (off + i) v rest (by simp at hl ⊢; omega)
    simpa [Array.toList_setIfInBounds, splice, Nat.add_assoc] using e
/-- A part of a row, loaded. -/
theorem run_loadPart {ρ : Rn} {t : TypeId} {n : Option Nat} {b o off : Nat} {c : Array Value} {ty : TypeId} {fz : Nat × Nat} {F : List AV} (ht : nT P t = some n) (hb : w.heap[b]? = some (.cells c ty fz))
    (hF : All2 (VA ρ) F ((c.toList.drop o).take F.length)) (hlen : o + F.length ≤ c.size) (hf : partFits F off n) :
    ∃ v, (loadVar t ⟨b, o + off, none⟩).run P w = .ok v w ∧ V1 ρ (partOf F off n) v := by
  cases n with
  | none =>
    have hlt : off < F.length := hf
    obtain ⟨y, hy, hv⟩ := hF.get off F[off] (by simp [hlt])
    refine ⟨y, ?_, ?_⟩
    · have hy' : c[o + off]? = some y := by
        rw [List.getElem?_take, if_pos hlt] at hy
        simpa using hy
      simp only [loadVar, Sem.run_bind, run_isAgg_none ht, Result.andThen_ok, Bool.false_eq_true, if_false, run_load, cell_row hb, hy']
    · have e : partOf F off none = F[off] := by simp [partOf, List.getD, List.getElem?_eq_getElem hlt]
      rw [e]; exact V1.of hv
  | some n =>
    have hlt : off + n ≤ F.length := hf
    refine ⟨.agg ((c.toList.drop (o + off)).take n).toArray, ?_, ?_⟩
    · simp [loadVar, run_isAgg_some ht, run_sizeT (nT_some ht).1, run_loadRow hb (show n = 0 ∨ o + off + n ≤ c.size from .inr (by omega))]
    · refine ⟨_, rfl, ?_⟩
      have := (hF.drop off).take n
      rw [List.drop_take, List.take_take, List.drop_drop, Nat.min_eq_left (by omega)] at this
      exact this
theorem run_storePart {t : TypeId} {n : Nat} {b off : Nat} {c : Array Value} {ty : TypeId} {fz : Nat × Nat} {v : Value} (ht : szT P t = some n) (hb : w.heap[b]? = some (.cells c ty fz)) (hfz : ∀ j, j < c.size → ¬ (fz.1 ≤ j ∧ j < fz.2))
    (hn : v.cells.size = n) (hf : off + n ≤ c.size) (h1 : ∀ u, u ∈ v.cells.toList → u.oneCell' = true) :
    (storeVar t ⟨b, off, none⟩ v).run P w = .ok () (w.setRow b (splice c.toList off v.cells.toList).toArray) := by
  have := run_storeRow (P := P) v.cells.toList 0 hb hfz (off := off) (by simp; omega) h1
  simp only [storeVar, Sem.run_bind, run_sizeT ht, Result.andThen_ok, hn, ne_eq, not_true, if_false]
  simpa using this
end rows
/-- Cells that stand for abstract ones are single ones. -/
theorem All2.ones {ρ : Rn} : ∀ {l : List AV} {m : List Value}, All2 (VA ρ) l m → ∀ u, u ∈ m → u.oneCell' = true
  | x :: r, y :: q, h, u, hu => by
    rcases List.mem_cons.1 hu with rfl | hu
    · exact h.1.one.1
    · exact All2.ones h.2 u hu
  | [], [], _, _, hu => by cases hu
  | [], _ :: _, h, _, _ => h.elim
  | _ :: _, [], h, _, _ => h.elim

/-! A literal's parts. -/
theorem foldl_set (vs : List Value) : ∀ (off i : Nat) (cells : Array Value), off + i + vs.length ≤ cells.size →
    ((vs.zipIdx i).foldl (fun cs (x : Value × Nat) => cs.setIfInBounds (off + x.2) x.1) cells).toList = splice cells.toList (off + i) vs := by
  induction vs with
  | nil => intro off i cells _; simp [splice]
  | cons v r ih =>
    intro off i cells h
    simp only [List.zipIdx_cons, List.foldl_cons]
    rw [ih off (i + 1) (cells.setIfInBounds (off + i) v) (by simp at h ⊢; omega)]
    have e := list_seg_step cells.toList (off + i) v r (by simp at h ⊢; omega)
    simpa [Array.toList_setIfInBounds, splice, Nat.add_assoc] using e
theorem foldl_set_arr (v : Value) (off : Nat) (cells : Array Value) (h : off + v.cells.size ≤ cells.size) :
    (v.cells.zipIdx.foldl (fun cs (x : Value × Nat) => cs.setIfInBounds (off + x.2) x.1) cells).toList = splice cells.toList off v.cells.toList := by
  have := foldl_set v.cells.toList off 0 cells (by simpa using h)
  rw [← Array.foldl_toList, Array.toList_zipIdx]
  simpa using this
theorem fill_cons {place : Nat → Option (Nat × Nat)} {cells : Array Value} {i off size : Nat} {v : Value} {rest : List (Nat × Value)} (hp : place i = some (off, size)) (h1 : v.cells.size = size) (h2 : off + size ≤ cells.size) :
    Instr.fill place cells ((i, v) :: rest) = Instr.fill place (splice cells.toList off v.cells.toList).toArray rest := by
  have hsz : ¬ (v.cells.size ≠ size || off + v.cells.size > cells.size) = true := by simp; omega
  rw [Instr.fill, hp]
  simp only
  rw [if_neg (by simpa using hsz)]
  congr 1
  apply Array.ext'
  rw [List.toList_toArray, ← foldl_set_arr v off cells (by omega)]
end Go.Vm
