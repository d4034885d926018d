/- What an operation of the abstract machine means for Go's own: slices of slices, stores. -/
import Derived.Test.YtfamnghjibckbaaVm9
namespace Go.Vm
set_option linter.unusedVariables false
set_option linter.unusedSimpArgs false
section ops
variable {P : Program} {B : Base} {C : Tab} {ρ : Rn} {M : Mem} {w : World} {e : Env} {a : Act} {o : Oper}
theorem sim_sl {d z : Nat} {x : Opd} {lo hi : Option Opd} (hc : chkOp P (.sl d x lo hi z) o.op = true) (hk : okO C e M (.sl d x lo hi z)) (hE : OE P ρ e a (x :: (lo.toList ++ hi.toList))) (hm : MemR B ρ M w) :
    Sim P o a w (Out B ρ M (vlO C e M (.sl d x lo hi z))) := by
  simp only [chkOp] at hc
  split at hc
  · rename_i t x' lo' hi' ho
    simp only [Bool.and_eq_true] at hc
    obtain ⟨⟨⟨h1, h2⟩, h3⟩, h4⟩ := hc
    split at h4
    · rename_i el hel
      have hz : szT P el = some z := by simpa using h4
      have hu := elT_und hel
      simp only [okO] at hk
      obtain ⟨k1, k2, ⟨k3, k4⟩, k5⟩ := hk
      have hx := hE x x' (by simp) h1
      have hE' : OE P ρ e a (lo.toList ++ hi.toList) := fun y z hy => hE y z (by simp at hy ⊢; exact .inr hy)
      simp only [vlO]
      generalize evT e x = X at *
      cases X <;> simp only [slC] at k5
      case ns =>
        have hx' : a.eval x' = .slice none 0 0 := hx
        obtain ⟨e1, e2⟩ := k5
        have hb := run_bounds (w := w) (P := P) (ρ := ρ) (a := a) (e := e) (isSlice := true) (len := 0) (cap := 0) (dl := .i .i64 0) (dh := lenV .ns) (Nat.le_refl _) h2 h3 hE' rfl rfl k3 k4 (by rw [e1]; exact Int.le_refl _) (by rw [e1, e2]; exact Int.le_refl _) (by rw [e2]; exact Int.le_refl _)
        rw [e1, e2] at hb
        refine Sim.value (v := .slice none 0 0) ?_ (Out.same (show VE ρ (slV _ _ .ns) _ from VE.of (V2.of (V1.of (VA.of (show VP ρ .ns _ from rfl))))) hm)
        simp only [execOp, ho, hx', Sem.run_bind, Instr.sliceAt, run_und hu, Result.andThen_ok, Instr.slice, Option.map_none, hb, run_sizeT hz]
        simp
      case sl id ix len =>
        obtain ⟨p, q1, q2, q3, off, cap, q4, q5, q6, hx'⟩ := (hx : VP ρ (.sl ..) _)
        obtain ⟨e1, e2, e3⟩ := k5
        obtain ⟨rw', st, xs, hob⟩ := slEls_z hm.heap q1 k2
        have hpz : p.z = z := (pl_obj hm.heap q1 hob).2.choose_spec.choose_spec.2.1
        have hb := run_bounds (w := w) (P := P) (ρ := ρ) (a := a) (e := e) (isSlice := true) (len := len) (cap := cap) (dl := .i .i64 0) (dh := lenV (.sl id ix len)) q4 h2 h3 hE' rfl rfl k3 k4 e1 e2 e3
        generalize hlo : (evO e lo (.i .i64 0)).toI = lo1 at *
        generalize hhi : (evO e hi (lenV (.sl id ix len))).toI = hi1 at *
        have hl0 : lo1.toNat ≤ hi1.toNat := by omega
        have hl1 : hi1.toNat ≤ len := by omega
        have hmul : lo1.toNat * z ≤ cap * z := Nat.mul_le_mul_right _ (by omega)
        rw [hpz] at q5 q6
        refine Sim.value (v := .slice (some ⟨p.b, if cap = lo1.toNat then off else off + lo1.toNat * z, none⟩) (hi1.toNat - lo1.toNat) (cap - lo1.toNat)) ?_ (Out.same (show VE ρ (slV _ _ (.sl id ix len)) _ from VE.of (V2.of (V1.of (VA.of (show VP ρ (.sl id (ix + lo1.toNat) (hi1.toNat - lo1.toNat)) _ from
          ⟨p, q1, by omega, by omega, if cap = lo1.toNat then off else off + lo1.toNat * z, cap - lo1.toNat, by omega, ?_, ?_, rfl⟩))))) hm)
        · simp only [execOp, ho, hx', Sem.run_bind, Instr.sliceAt, run_und hu, Result.andThen_ok, Instr.slice, Option.map_none, hb, run_sizeT hz]
          by_cases hcap : cap = lo1.toNat
          · simp [hcap]
          · simp [hcap, add_eq]
        · rw [hpz]
          by_cases hcap : cap = lo1.toNat
          · rw [if_pos hcap]; exact .inr ⟨by omega, by omega⟩
          · rw [if_neg hcap]
            refine .inl ?_
            rcases q5 with q5 | ⟨q5, q5'⟩
            · rw [q5, show ix + lo1.toNat - p.s = (ix - p.s) + lo1.toNat by omega, Nat.add_mul]; omega
            · omega
        · rw [hpz]
          by_cases hcap : cap = lo1.toNat
          · exact .inl (by omega)
          · rcases q6 with q6 | q6
            · exact .inl (by omega)
            · refine .inr ?_
              rw [if_neg hcap, Nat.sub_mul]; omega
    · cases h4
  · cases hc
/-- Objects turned: the frame's memory with them. -/
theorem MemR.turn {ρ' : Rn} {H' : AH} {w' : World} (hm : MemR B ρ M w) (hh : HeapR ρ' H' w') (hle : ρ.LeL ρ') (hlo : ρ'.lo = ρ.lo) (hown : ∀ b, b < w.heap.size → ρ'.own b = ρ.own b) (hsz : w.heap.size ≤ w'.heap.size)
    (hold : ∀ b, b < w.heap.size → (ρ.own b = .no ∨ ρ.own b = .loc) → w'.heap[b]? = w.heap[b]?) (hos : w'.os = w.os) (htp : w'.tape = w.tape) (hou : w'.output = w.output) : MemR B ρ' ⟨M.l, M.g, H'⟩ w' := by
  refine ⟨hh, fun t g k xs hv => ?_, fun t g hg => by rw [hlo]; exact hm.lof t g hg, fun t g t' g' b z z' h1 h2 => by rw [hlo] at h1 h2; exact hm.loi _ _ _ _ _ _ _ h1 h2, fun t g b z hl => ?_, hm.le.trans hle.toLe, fun b hb hn => ?_, fun b hb => ?_, by have := hm.sz; omega, hos.trans hm.os, htp.trans hm.tape, hou.trans hm.out, hm.glob_of hle⟩
  · exact (hm.loc t g k xs hv).mono hle fun b z hl => hold b (hm.lob _ _ _ _ hl).2.2 (.inr (hm.lob _ _ _ _ hl).1)
  · rw [hlo] at hl
    have hb := hm.lob _ _ _ _ hl
    exact ⟨(hown b hb.2.2).trans hb.1, hb.2.1, by omega⟩
  · have := hm.sz
    rw [hold b (by omega) (by rw [hm.own b hb]; exact hn)]
    exact hm.frame b hb hn
  · have := hm.sz
    rw [hown b (by omega)]; exact hm.own b hb
theorem MemR.store {t : TypeId} {n id st z k : Nat} {xs xs' : List AV} {p : Pl} {rest : List Pl} {v : Value} {y : AV} (hm : MemR B ρ M w) (hid : id < M.h.n) (hA : ArrR ρ w id true st z xs p rest) (hxz : ∀ x, x ∈ xs → x.cells.length = z)
    (ht : szT P t = some n) (hv : V1 ρ y v) (hn : y.cells.length = n) (hlen : xs'.length = xs.length) (hz : ∀ x, x ∈ xs' → x.cells.length = z) (hcl : ∀ x, x ∈ flat xs' → x ∈ flat xs ∨ x ∈ y.cells) (hfl : flat (xs'.drop p.s) = splice (flat (xs.drop p.s)) k y.cells) (hk : k + n ≤ (xs.length - p.s) * z) :
    ∃ w', (storeVar t ⟨p.b, p.o + k, none⟩ v).run P w = .ok () w' ∧ MemR B ρ ⟨M.l, M.g, M.h.set id (.arr true (if st = 0 then 0 else 2) z xs')⟩ w' := by
  obtain ⟨c, ty, fz, v1, v2, v3, v4, v5⟩ := hA.hv
  have hzz := hA.hz
  have hxx := hA.hx
  have hss := hA.hs
  have hown := hA.hown p (by simp)
  have hown2 : ρ.own p.b = .id id := hown.2
  have hvs := hv.size
  have hvl : v.cells.toList.length = n := by rw [Array.length_toList, ← hvs]; exact hn
  rw [hzz, hxx] at v4 v5
  have hsp : (splice c.toList (p.o + k) v.cells.toList).length = c.size := by rw [splice_len (by rw [hvl, Array.length_toList, v2]; omega), Array.length_toList]
  have hother : ∀ b, b ≠ p.b → (w.setRow p.b (splice c.toList (p.o + k) v.cells.toList).toArray).heap[b]? = w.heap[b]? := fun b hb => setRow_other w p.b b _ hb
  refine ⟨w.setRow p.b (splice c.toList (p.o + k) v.cells.toList).toArray, run_storePart ht v1 (fun j hj => v3 rfl j (by omega)) (by rw [← hvs]; exact hn) (by omega) hv.cells.ones, ?_⟩
  refine hm.turn (ρ' := ρ) ?_ (.refl ρ) rfl (fun _ _ => rfl) (by simp) (fun b hb hn => hother b fun e => by rw [e, hown2] at hn; simp at hn) rfl rfl rfl
  refine hm.heap.setArr hid hA (setRow_heap w p.b c _ ty fz v1) (by rw [List.size_toArray, hsp, v2]) (v3 rfl) hother (by simp) hlen hz (fun x hx => (hcl x hx).elim (hA.hcl x) (hv.cells.ex x)) ?_
  rw [hfl, List.toList_toArray, splice_drop (by rw [Array.length_toList]; omega), hxx, hzz, splice_take (by rw [hvl]; omega) (by simp; omega)]
  have ht' : told p xs = xs.drop p.s := by simp only [told]; rw [List.take_of_length_le (by omega)]
  rw [ht'] at v5
  exact v5.splice hv.cells
theorem sim_st {x v : Opd} {n : Nat} (hc : chkOp P (.st x v n) o.op = true) (hk : (evT e v).cells.length = n ∧ (evT e v).outs = true ∧ stC M (evT e v) (evT e x)) (hE : OE P ρ e a [x, v]) (hm : MemR B ρ M w) :
    Sim P o a w (Out B ρ (stM M (evT e v) (evT e x)) .u) := by
  simp only [chkOp] at hc
  split at hc
  · rename_i t x' v' ho
    simp only [Bool.and_eq_true, beq_iff_eq] at hc
    obtain ⟨⟨h1, h2⟩, ht⟩ := hc
    obtain ⟨k1, k2, k3⟩ := hk
    have hx := hE x x' (by simp) h1
    have hv := (hE v v' (by simp) h2).out k2
    have key : ∀ {ad : Addr} {M' : Mem}, a.eval x' = .pointer (some ad) → (∃ w', (storeVar t ad (a.eval v')).run P w = .ok () w' ∧ MemR B ρ M' w') → Sim P o a w (Out B ρ M' .u) := by
      intro ad M' hx' ⟨w', hr, hm'⟩
      refine Sim.skip (w' := w') ?_ ⟨ρ, .refl ρ, trivial, hm'⟩
      simp [execOp, ho, hx', Instr.storeAt, Instr.sureAddr, hr]
    generalize evT e x = X at *
    generalize evT e v = V at *
    cases X <;> simp only [stC] at k3
    case pv id off =>
      obtain ⟨p, q1, q2, hx'⟩ := (hx : VP ρ (.pv ..) _)
      have hid := pl_lt hm.heap q1
      simp only [stM]
      cases hob : M.h.at' id with
      | no => rw [hob] at k3; exact k3.elim
      | map rw es => rw [hob] at k3; exact k3.elim
      | arr rw st z xs =>
        rw [hob] at k3
        obtain ⟨hz, p0, rest, hA, r1, r2, r3, r4, r5, r6⟩ := pl_obj hm.heap q1 hob
        by_cases hone : ∃ y, xs = [y]
        · obtain ⟨y, rfl⟩ := hone
          obtain ⟨rfl, rfl, s3, s4⟩ := k3
          have hpp := r6 rfl
          subst hpp
          have hc := setEl_cells (x := y) (off := off) hv.flatV (by omega)
          have hcl : (setEl y off V).cells.length = z := by rw [hc, splice_len (by omega), s3]
          have := hm.store (P := P) (t := t) (k := off) (xs' := [setEl y off V]) hid hA hz ht hv k1 rfl (by intro q hq; simp only [List.mem_singleton] at hq; rw [hq]; exact hcl) (fun q hq => by simp only [flat, List.append_nil] at hq ⊢; rw [hc] at hq; exact mem_splice hq) (by rw [q2]; simp only [List.drop_zero, flat, List.append_nil]; exact hc) (by rw [q2]; simp; omega)
          exact key hx' this
        · have k3' : rw = true ∧ st = 0 ∧ z = 1 ∧ off + V.cells.length ≤ xs.length ∧ (∀ x ∈ xs, x.cells = [x]) ∧ (∀ x ∈ V.cells, x.cells = [x]) := by
            split at k3
            · rename_i h; cases h; exact absurd ⟨_, rfl⟩ hone
            · rename_i h; cases h; exact k3
            · exact k3.elim
          obtain ⟨rfl, rfl, rfl, s4, s5, s6⟩ := k3'
          have hpp := r6 rfl
          subst hpp
          have hfl : ∀ l : List AV, (∀ x ∈ l, x.cells = [x]) → flat l = l := by
            intro l
            induction l with
            | nil => intro _; rfl
            | cons y r ih => intro h; simp only [flat]; rw [h y (by simp), ih fun q hq => h q (by simp [hq])]; rfl
          have hmem : ∀ q, q ∈ setPart xs off V → q.cells = [q] := by
            intro q hq
            simp only [setPart, List.mem_append] at hq
            rcases hq with (hq | hq) | hq
            · exact s5 q (List.mem_of_mem_take hq)
            · exact s6 q hq
            · exact s5 q (List.mem_of_mem_drop hq)
          have := hm.store (P := P) (t := t) (k := off) (xs' := setPart xs off V) hid hA hz ht hv k1 (by rw [setPart_eq, splice_len s4]) (fun q hq => by rw [hmem q hq]; rfl) (fun q hq => by rw [hfl _ hmem] at hq; rw [hfl _ s5]; exact mem_splice hq) (by rw [q2]; simp only [List.drop_zero]; rw [hfl _ hmem, hfl _ s5]; rfl) (by rw [q2]; simp; omega)
          refine key hx' ?_
          split
          · rename_i h; cases h; exact absurd ⟨_, rfl⟩ hone
          · rename_i h; cases h; exact this
          · rename_i h1 h2; exact absurd rfl (h2 _ _ _ _)
    case pe id ix off ext =>
      obtain ⟨p, q1, q2, q3, q4, hx'⟩ := (hx : VP ρ (.pe ..) _)
      have hid := pl_lt hm.heap q1
      simp only [stM]
      split at k3
      · rename_i rw st z xs hob
        obtain ⟨rfl, s2, s3, s4⟩ := k3
        obtain ⟨hz, p0, rest, hA, r1, r2, r3, r4, r5, r6⟩ := pl_obj hm.heap q1 hob
        have hpp := r4 (by omega)
        subst hpp
        have hxx := hA.hx
        have hd : ∀ q, q ∈ xs.drop p.s → q.cells.length = z := fun q hq => hz q (List.mem_of_mem_drop hq)
        have hgd : (xs.drop p.s).getD (ix - p.s) .u = xs.getD ix .u := by simp only [List.getD, List.getElem?_drop]; rw [show p.s + (ix - p.s) = ix by omega]
        obtain ⟨f1, f2⟩ := flat_setEl (z := z) (ix := ix - p.s) (off := off) (xs := xs.drop p.s) (v := V) hd (by simp; omega) hv.flatV (by rw [hgd]; exact s4)
        rw [hgd] at f1 f2
        have hel : (xs.getD ix .u).cells.length = z := by simp only [List.getD, List.getElem?_eq_getElem s3, Option.getD_some]; exact hz _ (List.getElem_mem s3)
        have hmul : (ix - p.s + 1) * z ≤ (xs.length - p.s) * z := Nat.mul_le_mul_right _ (by omega)
        rw [Nat.add_mul, Nat.one_mul] at hmul
        have := hm.store (P := P) (t := t) (k := (ix - p.s) * z + off) (xs' := xs.set ix (setEl (xs.getD ix .u) off V)) hid hA hz ht hv k1 (by simp)
          (fun q hq => by
            rcases List.mem_or_eq_of_mem_set hq with hq | rfl
            · exact hz q hq
            · exact f2)
          (fun q hq => by rw [(flat_setEl hz s3 hv.flatV s4).1] at hq; exact mem_splice hq)
          (by rw [← f1, List.drop_set, if_neg (by omega)]) (by omega)
        refine key hx' ?_
        rw [r1, Nat.add_assoc]
        exact this
      · exact k3.elim
    case la t' g ix off =>
      obtain ⟨b, z, q1, hx'⟩ := hx
      obtain ⟨s1, s2, s3⟩ := k3
      obtain ⟨hz, c, ty, v1, v2, v3⟩ := loc_cells hm q1 s1
      simp only [stM]
      obtain ⟨xs, hxs⟩ := Option.isSome_iff_exists.1 (show (lookL M.l t' g 0).isSome = true from s1)
      have hg : M.getL t' g 0 = xs := by simp [Mem.getL, hxs]
      rw [hg] at s2 s3 hz v2 v3 ⊢
      obtain ⟨f1, f2⟩ := flat_setEl (z := z) (off := off) (v := V) hz s2 hv.flatV s3
      have hel : (xs.getD ix .u).cells.length = z := by simp only [List.getD, List.getElem?_eq_getElem s2, Option.getD_some]; exact hz _ (List.getElem_mem s2)
      have hmul : (ix + 1) * z ≤ xs.length * z := Nat.mul_le_mul_right _ (by omega)
      rw [Nat.add_mul, Nat.one_mul] at hmul
      have hvl : (a.eval v').cells.toList.length = n := by rw [Array.length_toList, ← hv.size]; exact k1
      have hsp : (splice c.toList (ix * z + off) (a.eval v').cells.toList).length = c.size := by rw [splice_len (by rw [hvl, Array.length_toList, v2]; omega), Array.length_toList]
      refine key hx' ⟨w.setRow b (splice c.toList (ix * z + off) (a.eval v').cells.toList).toArray, run_storePart ht v1 (fun j hj => by simp) (by rw [← hv.size]; exact k1) (by omega) hv.cells.ones, ?_⟩
      refine hm.setLoc q1 hxs (by simp) (fun b' hb' => setRow_other w b b' _ hb') rfl rfl rfl ⟨b, z, q1, ?_, _, ty, setRow_heap w b c _ ty _ v1, ?_, ?_⟩
      · intro q hq
        rcases List.mem_or_eq_of_mem_set hq with hq | rfl
        · exact hz q hq
        · exact f2
      · rw [List.size_toArray, hsp, v2]; simp
      · rw [List.toList_toArray, f1]
        exact v3.splice hv.cells
  · cases hc
end ops
end Go.Vm
