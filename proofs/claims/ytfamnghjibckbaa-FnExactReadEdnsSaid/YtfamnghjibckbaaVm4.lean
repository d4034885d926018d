/- What an operation of the abstract machine means for Go's own: values. -/
import Derived.Test.YtfamnghjibckbaaVm3
import Derived.Laws.Entries
namespace Go.Vm
set_option linter.unusedVariables false
set_option linter.unusedSimpArgs false

structure Base where
  G : Nat
  w0 : World
  ρ0 : Rn
/-- An own variable lies in a block of its own. -/
def LocR (ρ : Rn) (w : World) (v : Lv) : Prop :=
  ∃ b z, ρ.lo v.t v.g = some (b, z) ∧ match v.k with
    | 0 => (∀ x, x ∈ v.xs → x.cells.length = z) ∧ ∃ c ty, w.heap[b]? = some (.cells c ty (0, 0)) ∧ c.size = v.xs.length * z ∧ All2 (VA ρ) (flat v.xs) c.toList
    | _ => ∃ l n, v.xs = [.s l, .i .i64 n] ∧ w.heap[b]? = some (.stringIter ⟨l.toArray⟩ n.toNat)
structure MemR (B : Base) (ρ : Rn) (M : Mem) (w : World) : Prop where
  heap : HeapR ρ M.h w
  loc : ∀ t g k xs, lookL M.l t g k = some xs → LocR ρ w ⟨t, g, k, xs⟩
  lof : ∀ t g, M.g ≤ g → ρ.lo t g = none
  loi : ∀ t g t' g' b z z', ρ.lo t g = some (b, z) → ρ.lo t' g' = some (b, z') → t = t' ∧ g = g'
  lob : ∀ t g b z, ρ.lo t g = some (b, z) → ρ.own b = .loc ∧ B.w0.heap.size ≤ b ∧ b < w.heap.size
  le : B.ρ0.Le ρ
  frame : ∀ b, b < B.w0.heap.size → B.ρ0.own b = .no ∨ B.ρ0.own b = .loc → w.heap[b]? = B.w0.heap[b]?
  own : ∀ b, b < B.w0.heap.size → ρ.own b = B.ρ0.own b
  sz : B.w0.heap.size ≤ w.heap.size
  os : w.os = B.w0.os
  tape : w.tape = B.w0.tape
  out : w.output = B.w0.output
  glob : ∀ g, g < B.G → ∃ p, p ∈ ρ.pl g ∧ p.b = g ∧ p.o = 0 ∧ p.s = 0
/-- Nothing of the heap has turned. -/
theorem LocR.heap {ρ : Rn} {w w' : World} {v : Lv} (h : LocR ρ w v) (he : w'.heap = w.heap) : LocR ρ w' v := by
  unfold LocR at *
  rw [he]; exact h
theorem MemR.heap' {B : Base} {ρ : Rn} {M : Mem} {w w' : World} (h : MemR B ρ M w) (he : w'.heap = w.heap) (ho : w'.os = w.os) (ht : w'.tape = w.tape) (hu : w'.output = w.output) : MemR B ρ M w' :=
  ⟨h.heap.heap he, fun t g k xs hv => (h.loc t g k xs hv).heap he, h.lof, h.loi, fun t g b z hl => by rw [he]; exact h.lob t g b z hl, h.le, fun b hb hn => by rw [he]; exact h.frame b hb hn, h.own, by rw [he]; exact h.sz, ho.trans h.os, ht.trans h.tape, hu.trans h.out, h.glob⟩
theorem MemR.drew {B : Base} {ρ : Rn} {M : Mem} {w : World} (h : MemR B ρ M w) : MemR B ρ M w.drew := h.heap' rfl rfl rfl rfl

def Sim (P : Program) (o : Oper) (a : Act) (w : World) (K : Value → World → Prop) : Prop :=
  ∀ (next : Act → World → Prop) (Q : Exit → Act → World → Prop), (∀ v w', K v w' → next (a.put o.dst v) w') → o.wp P a w next Q
def Out (B : Base) (ρ : Rn) (M' : Mem) (x : AV) (v : Value) (w' : World) : Prop := ∃ ρ', ρ.LeL ρ' ∧ VE ρ' x v ∧ MemR B ρ' M' w'
theorem Sim.value {P : Program} {o : Oper} {a : Act} {w w' : World} {K : Value → World → Prop} {v : Value} (h : (execOp a.eval o).run P w = .ok (.value v) w') (hk : K v w') : Sim P o a w K := by
  intro next Q hn
  unfold Oper.wp
  rw [h, Oper.upon_value]
  exact hn v w' hk
theorem Sim.skip {P : Program} {o : Oper} {a : Act} {w w' : World} {K : Value → World → Prop} (h : (execOp a.eval o).run P w = .ok .skip w') (hk : K undef w') : Sim P o a w K := by
  intro next Q hn
  unfold Oper.wp
  rw [h, Oper.upon_skip]
  exact hn undef w' hk
theorem Out.same {B : Base} {ρ : Rn} {M : Mem} {x : AV} {v : Value} {w : World} (hv : VE ρ x v) (hm : MemR B ρ M w) : Out B ρ M x v w := ⟨ρ, .refl ρ, hv, hm⟩

/-! What values are. -/
section
variable {ρ : Rn} {a : AV} {v : Value}
theorem VE.int (h : VE ρ a v) (hi : a.isI = true) : a = .i a.toK a.toI ∧ v = .int a.toK a.toI := by
  cases a <;> simp [AV.isI] at hi
  exact ⟨rfl, h⟩
theorem VE.bool (h : VE ρ a v) (hi : a.isB = true) : ∃ b, a = .b b ∧ v = .bool b := by
  cases a <;> simp [AV.isB] at hi
  exact ⟨_, rfl, h⟩
theorem VE.str (h : VE ρ a v) (hi : a.isS = true) : a = .s a.toS ∧ v = .string ⟨a.toS.toArray⟩ := by
  cases a <;> simp [AV.isS] at hi
  exact ⟨rfl, h⟩
theorem VE.ag {cs : List AV} (h : VE ρ (.ag cs) v) : ∃ ys : Array Value, v = .agg ys ∧ All2 (VA ρ) cs ys.toList := h
theorem VE.tp {cs : List AV} (h : VE ρ (.tp cs) v) : ∃ ys : Array Value, v = .tuple ys ∧ All2 (V1 ρ) cs ys.toList := h
end

/-! Constants. -/
theorem sameA_sound {ρ : Rn} {a : AV} {v : Value} (h : sameA a v = true) : VA ρ a v := by
  cases a <;> cases v <;> simp [sameA] at h
  case b.bool => subst h; rfl
  case i.int => obtain ⟨rfl, rfl⟩ := h; rfl
  case s.string s => subst h; show _ = _; simp
  case np.pointer p => subst h; rfl
  case ns.slice p l c => obtain ⟨⟨rfl, rfl⟩, rfl⟩ := h; rfl
  case nm.map p => subst h; rfl
  case nf.nilFunc => rfl
  case ni.nilIface => rfl
theorem sameCs_sound {ρ : Rn} : ∀ {l : List AV} {m : List Value}, sameCs l m = true → All2 (VA ρ) l m
  | [], [], _ => trivial
  | x :: r, y :: q, h => by
    simp [sameCs] at h
    exact ⟨sameA_sound h.1, sameCs_sound h.2⟩
  | [], _ :: _, h => by simp [sameCs] at h
  | _ :: _, [], h => by simp [sameCs] at h
theorem chkC_sound {ρ : Rn} {a : AV} {v : Value} (h : chkC a v = true) : V1 ρ a v := by
  simp only [chkC, Bool.and_eq_true] at h
  obtain ⟨hp, hs⟩ := h
  cases a
  case ag xs =>
    cases v <;> simp [sameC] at hs
    exact ⟨_, rfl, sameCs_sound hs⟩
  all_goals exact V1.of (sameA_sound (by simpa [sameC] using hs))
theorem chkX_sound {P : Program} {B : Base} {ρ : Rn} {M : Mem} {w : World} (hm : MemR B ρ M w) (hG : B.G = P.globals.size) {e : Env} {a : Act} {x : Opd} {y : Operand} (h : chkX P x y = true)
    (ht : ∀ t, x = .t t → VE ρ (look e t) (a.tmps.getD t undef)) : VE ρ (evT e x) (a.eval y) := by
  cases x <;> cases y <;> simp [chkX] at h
  case t.tmp n m => subst h; exact ht n rfl
  case c.const => exact VE.of (V2.of (chkC_sound h))
  case g.global n m =>
    obtain ⟨rfl, hn⟩ := h
    obtain ⟨p, h1, h2, h3, h4⟩ := hm.glob n (by omega)
    exact VE.of (V2.of (V1.of (VA.of (show VP ρ (.pv n 0) _ from ⟨p, h1, h4, by rw [h2, h3]; rfl⟩))))
  case f.func n m => subst h; exact VE.of (V2.of (V1.of (show VA ρ (.fn n []) _ from ⟨#[], rfl, trivial⟩)))
end Go.Vm
