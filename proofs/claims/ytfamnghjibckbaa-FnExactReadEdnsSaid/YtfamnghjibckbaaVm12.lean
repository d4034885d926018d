/- What an operation of the abstract machine means for Go's own: calls; all operations. -/
import Derived.Test.YtfamnghjibckbaaVm11
import Derived.BigCall
namespace Go.Vm
set_option linter.unusedVariables false
set_option linter.unusedSimpArgs false

/-- What a call leaves as it was. -/
structure Stp (ρ : Rn) (w : World) (ρ' : Rn) (w' : World) : Prop where
  le : ρ.Le ρ'
  own : ∀ b, b < w.heap.size → ρ'.own b = ρ.own b
  frame : ∀ b, b < w.heap.size → ρ.own b = .no ∨ ρ.own b = .loc → w'.heap[b]? = w.heap[b]?
  sz : w.heap.size ≤ w'.heap.size
  os : w'.os = w.os
  tape : w'.tape = w.tape
  out : w'.output = w.output
def Globs (ρ : Rn) (G : Nat) : Prop := ∀ g, g < G → ∃ p, p ∈ ρ.pl g ∧ p.b = g ∧ p.o = 0 ∧ p.s = 0
def Back (ρ : Rn) (w : World) (v : AV) (H' : AH) : Ending → World → Prop
  | .returned r, w' => ∃ ρ', Stp ρ w ρ' w' ∧ V2 ρ' v r ∧ HeapR ρ' H' w'
  | _, _ => False
/-- What a table says of a function holds of it. -/
def TabOK (P : Program) (C : Tab) : Prop :=
  ∀ f args H v H', C f args H = some (v, H') → (∃ fn, P.funcs[f]? = some fn ∧ (fn.name == "runtime.NumGoroutine") = false ∧ fn.body.isNone = false) ∧
    ∀ ρ w rargs, HeapR ρ H w → Globs ρ P.globals.size → All2 (V1 ρ) args rargs.toList → Calls P f rargs w (Back ρ w v H')

def sup : O → Bool
  | .eqa .. | .sla .. | .lnm .. | .cp .. | .cv .. | .mf .. | .nc .. | .mm .. | .mkm .. | .lk .. | .mu .. | .dl .. | .rs .. | .nx .. | .gd .. => false
  | _ => true
def opds : O → List Opd
  | .mv _ x | .un _ _ x | .nl _ _ _ x | .ci _ _ x | .cbs _ x | .csb _ x | .ex _ x _ | .fd _ x _ _ | .sla _ x _ _ | .ln _ x | .lns _ x | .lnm _ x | .bx _ x | .lbx _ x | .ld _ x _ | .fa _ x _ | .mk _ _ _ _ x | .nc _ x | .rs _ x | .nx _ x => [x]
  | .pk _ c a b => [c, a, b]
  | .bn _ _ x y | .be _ _ x y | .eqa _ _ _ x y | .ix _ x y | .ixa _ x y _ _ _ | .st x y _ | .ia _ x y _ | .iaa _ x y _ _ | .ap _ x y _ _ | .cp _ x y _ | .mm _ _ x y | .lk _ x y _ _ _ | .dl x y _ => [x, y]
  | .mu x y z _ => [x, y, z]
  | .bd _ _ parts => opdsP parts
  | .bs _ _ _ _ parts | .lbs _ _ _ _ parts => opdsE parts
  | .ss _ x lo hi | .sl _ x lo hi _ => x :: (lo.toList ++ hi.toList)
  | .cl _ _ xs => xs
  | .cv _ x xs => x :: xs
  | .mf _ _ xs => xs
  | .al .. | .lal .. | .mkm .. | .gd .. => []

section ops
variable {P : Program} {B : Base} {C : Tab} {ρ : Rn} {M : Mem} {w : World} {e : Env} {a : Act} {o : Oper}
theorem args_rel {ρ : Rn} : ∀ {xs : List Opd} {ys : List Operand}, chkXs P xs ys = true → OE P ρ e a xs → allOut (evs e xs) = true → All2 (V1 ρ) (evs e xs) (ys.map a.eval)
  | [], [], _, _, _ => trivial
  | x :: r, y :: q, hc, hE, ho => by
    simp only [chkXs, Bool.and_eq_true] at hc
    simp only [evs, allOut, Bool.and_eq_true] at ho
    exact ⟨(hE x y (by simp) hc.1).out ho.1, args_rel hc.2 (fun y z hy => hE y z (by simp [hy])) ho.2⟩
  | [], _ :: _, hc, _, _ => by simp [chkXs] at hc
  | _ :: _, [], hc, _, _ => by simp [chkXs] at hc
/-- Behind a call. -/
theorem MemR.back {H' : AH} {ρ' : Rn} {w' : World} (hm : MemR B ρ M w) (hs : Stp ρ w ρ' w') (hh : HeapR ρ' H' w') :
    ρ.LeL { ρ' with lo := ρ.lo } ∧ MemR B { ρ' with lo := ρ.lo } ⟨M.l, M.g, H'⟩ w' := by
  have hle : ρ.LeL { ρ' with lo := ρ.lo } := ⟨⟨hs.le.pl, hs.le.ob⟩, fun _ _ _ h => h⟩
  refine ⟨hle, hm.turn ?_ hle rfl hs.own hs.sz hs.frame hs.os hs.tape hs.out⟩
  exact hh.of ⟨fun _ p h => ⟨p, h, rfl, rfl, rfl, rfl, rfl, Nat.le_refl _⟩, fun _ _ h => h⟩ rfl rfl (Nat.le_refl _) (fun _ _ _ => ⟨rfl, rfl⟩) hh.bnd fun _ _ h => h
theorem sim_call {d : Option Nat} {x : O} {f : Nat} {rargs : Array Value} {vs : List AV} (hC : TabOK P C) (hG : B.G = P.globals.size) (hr : (execOp a.eval o).run P w = (callFunc f rargs).run P w)
    (hk : isOk (C f vs M.h)) (hv : All2 (V1 ρ) vs rargs.toList) (hm : MemR B ρ M w) : Sim P o a w (Out B ρ ⟨M.l, M.g, rh M.h (C f vs M.h)⟩ (rv (C f vs M.h))) := by
  cases hCf : C f vs M.h with
  | none => rw [hCf] at hk; exact hk.elim
  | some r =>
    obtain ⟨v, H'⟩ := r
    obtain ⟨⟨fn, hf, hname, hbody⟩, hcall⟩ := hC f vs M.h v H' hCf
    intro next Q hn
    unfold Oper.wp
    have hrun : (callFunc f rargs).run P w = .ok (.enter f rargs) w := by
      have h1 : ¬ fn.name = "runtime.NumGoroutine" := by simpa using hname
      have h2 : ¬ fn.body = none := by intro h; rw [h] at hbody; cases hbody
      simp [callFunc, hf, h1, h2]
    rw [hr, hrun, Oper.upon_enter]
    refine (hcall ρ w rargs hm.heap (by rw [← hG]; exact hm.glob) hv).mono fun e w' hR => ?_
    cases e with
    | returned r =>
      obtain ⟨ρ', hs, hv', hh⟩ := hR
      obtain ⟨h1, h2⟩ := hm.back hs hh
      have hle : ρ'.Le { ρ' with lo := ρ.lo } := ⟨fun _ p h => ⟨p, h, rfl, rfl, rfl, rfl, rfl, Nat.le_refl _⟩, fun _ _ h => h⟩
      exact hn _ _ ⟨_, h1, VE.of (V2.mono hle hv'), h2⟩
    | panicked _ => exact hR.elim
    | outgrown => exact hR.elim
theorem sim_cl {d : Option Nat} {f : Nat} {xs : List Opd} (hC : TabOK P C) (hG : B.G = P.globals.size) (hc : chkOp P (.cl d f xs) o.op = true) (hk : allOut (evs e xs) = true ∧ isOk (C f (evs e xs) M.h)) (hE : OE P ρ e a xs) (hm : MemR B ρ M w) :
    Sim P o a w (Out B ρ ⟨M.l, M.g, rh M.h (C f (evs e xs) M.h)⟩ (rv (C f (evs e xs) M.h))) := by
  simp only [chkOp] at hc
  split at hc
  · rename_i c ho
    split at hc
    · rename_i g hcal
      simp only [Bool.and_eq_true, beq_iff_eq] at hc
      obtain ⟨rfl, h1⟩ := hc
      refine sim_call (x := .cl d f xs) (d := d) (f := f) (rargs := c.args.map a.eval) hC hG ?_ hk.2 (by rw [Array.toList_map]; exact args_rel h1 hE hk.1) hm
      simp only [execOp, ho, resolve, hcal, Act.eval, Deferred.ofValue, Sem.run_bind, Sem.run_pure, Result.andThen_ok, invoke]
      simp
    · cases hc
  · cases hc
theorem sim_op {x : O} (hC : TabOK P C) (hG : B.G = P.globals.size) (hs : sup x = true) (hc : chkOp P x o.op = true) (hk : okO C e M x) (hE : OE P ρ e a (opds x)) (hm : MemR B ρ M w) :
    Sim P o a w (Out B ρ (mmO C e M x) (vlO C e M x)) := by
  cases x <;> first | (exact absurd hs Bool.false_ne_true) | skip
  case mv => exact sim_mv hc hE hm
  case pk => exact sim_pk hc hk hE hm
  case bn => exact sim_bn hc hk hE hm
  case un => exact sim_un hc hk hE hm
  case be => exact sim_be hc hk hE hm
  case nl => exact sim_nl hc hk hE hm
  case ci => exact sim_ci hc hk hE hm
  case cbs => exact sim_cbs hc hk hE hm
  case csb => exact sim_csb hc hk hE hm
  case ex => exact sim_ex hc hk hE hm
  case bd => exact sim_bd hc hk hE hm
  case fd => exact sim_fd hc hk hE hm
  case ix => exact sim_ix hc hk hE hm
  case ixa => exact sim_ixa hc hk hE hm
  case ss => exact sim_ss hc hk hE hm
  case sl => exact sim_sl hc hk hE hm
  case ln => exact sim_ln hc hk hE hm
  case lns => exact sim_lns hc hk hE hm
  case al => exact sim_al hc hm
  case bx => exact sim_bx hc hk hE hm
  case lal => exact sim_lal hc hm
  case lbx => exact sim_lbx hc hk hE hm
  case ld => exact sim_ld hc hk hE hm
  case st => exact sim_st hc hk hE hm
  case fa => exact sim_fa hc hk hE hm
  case ia => exact sim_ia hc hk hE hm
  case iaa => exact sim_iaa hc hk hE hm
  case bs => exact sim_bs hc hk hE hm
  case lbs => exact sim_lbs hc hk hE hm
  case mk => exact sim_mk hc hk hE hm
  case ap => exact sim_ap hc hk hE hm
  case cl => exact sim_cl hC hG hc hk hE hm
end ops
end Go.Vm
