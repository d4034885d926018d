/- Plain laws that runs use: numbers, rows of bytes. -/
import Derived.Test.YtfamnghjibckbaaVm19
import Derived.Laws.BitsLemmas
namespace Go.Vm
set_option linter.unusedVariables false
set_option linter.unusedSimpArgs false
theorem take_rep_set {α : Type} {l : List α} {i : Nat} {z d : α} (h : i < l.length) : (l.take i ++ List.replicate (l.length - i) z).set i (l.getD i d) = l.take (i + 1) ++ List.replicate (l.length - (i + 1)) z := by
  have e1 : (l.take i).length = i := by simp; omega
  rw [List.set_append_right _ _ (by omega), e1, Nat.sub_self, show l.length - i = (l.length - (i + 1)) + 1 by omega, List.replicate_succ, List.set_cons_zero]
  have e3 : l.getD i d = l[i] := by simp [List.getD, List.getElem?_eq_getElem h]
  rw [e3, ← List.take_append_getElem h, List.append_assoc]
  rfl
theorem o_b (x : Bool) : AV.outs (.b x) = true := rfl
theorem q_b (x : Bool) : AV.cells (.b x) = [(.b x)] := rfl
theorem o_i (k : IntKind) (n : Int) : AV.outs (.i k n) = true := rfl
theorem q_i (k : IntKind) (n : Int) : AV.cells (.i k n) = [(.i k n)] := rfl
theorem o_s (l : List UInt8) : AV.outs (.s l) = true := rfl
theorem q_s (l : List UInt8) : AV.cells (.s l) = [(.s l)] := rfl
theorem o_np  : AV.outs .np = true := rfl
theorem q_np  : AV.cells .np = [.np] := rfl
theorem o_pv (i o : Nat) : AV.outs (.pv i o) = true := rfl
theorem q_pv (i o : Nat) : AV.cells (.pv i o) = [(.pv i o)] := rfl
theorem o_pe (i x o e : Nat) : AV.outs (.pe i x o e) = true := rfl
theorem q_pe (i x o e : Nat) : AV.cells (.pe i x o e) = [(.pe i x o e)] := rfl
theorem o_ns  : AV.outs .ns = true := rfl
theorem q_ns  : AV.cells .ns = [.ns] := rfl
theorem o_sl (i x n : Nat) : AV.outs (.sl i x n) = true := rfl
theorem q_sl (i x n : Nat) : AV.cells (.sl i x n) = [(.sl i x n)] := rfl
theorem o_nm  : AV.outs .nm = true := rfl
theorem q_nm  : AV.cells .nm = [.nm] := rfl
theorem o_mp (i : Nat) : AV.outs (.mp i) = true := rfl
theorem q_mp (i : Nat) : AV.cells (.mp i) = [(.mp i)] := rfl
theorem o_nf  : AV.outs .nf = true := rfl
theorem q_nf  : AV.cells .nf = [.nf] := rfl
theorem o_fn (f : FuncId) (c : List AV) : AV.outs (.fn f c) = true := rfl
theorem q_fn (f : FuncId) (c : List AV) : AV.cells (.fn f c) = [(.fn f c)] := rfl
theorem o_ag (xs : List AV) : AV.outs (.ag xs) = true := rfl
theorem q_ag (xs : List AV) : AV.cells (.ag xs) = xs := rfl
section
variable {C : Tab}
theorem x_k {e : Env} {M : Mem} {κ : Kont} : exec C .k e M κ = κ .nx e M := rfl
theorem x_o {l : List O} {e : Env} {M : Mem} {κ : Kont} : exec C (.o l) e M κ = doOs C l e M (kOps κ) := rfl
theorem x_p {l : List PO} {e : Env} {M : Mem} {κ : Kont} : exec C (.p l) e M κ = doPs C 0 [] l e M (kOps κ) := rfl
theorem x_q {a b : S} {e : Env} {M : Mem} {κ : Kont} : exec C (.q a b) e M κ = exec C a e M (kSeq (exec C b) κ) := rfl
theorem x_i {c : Opd} {a b : S} {e : Env} {M : Mem} {κ : Kont} : exec C (.i c a b) e M κ = ((evT e c).isB = true ∧ (evT e c = .b true → exec C a e M κ) ∧ (evT e c = .b false → exec C b e M κ)) := rfl
theorem x_it {c : Opd} {a b : S} {e : Env} {M : Mem} {κ : Kont} (h : evT e c = .b true) : exec C (.i c a b) e M κ = exec C a e M κ := by rw [x_i, h]; simp [AV.isB]
theorem x_if {c : Opd} {a b : S} {e : Env} {M : Mem} {κ : Kont} (h : evT e c = .b false) : exec C (.i c a b) e M κ = exec C b e M κ := by rw [x_i, h]; simp [AV.isB]
theorem d_nil {e : Env} {M : Mem} {κ : Env → Mem → Prop} : doOs C [] e M κ = κ e M := rfl
theorem d_on {t : Nat} {b : Bool} {o : O} {l : List O} {e : Env} {M : Mem} {κ : Env → Mem → Prop} (h : look e t = .b b) : doOs C (.gd t b o :: l) e M κ = (okO C e M o ∧ doOs C l (putE (dsO o) (vlO C e M o) e) (mmO C e M o) κ) := by
  simp only [doOs, h]
  cases b <;> simp [AV.isB]
theorem d_off {t : Nat} {b : Bool} {o : O} {l : List O} {e : Env} {M : Mem} {κ : Env → Mem → Prop} (h : look e t = .b (!b)) : doOs C (.gd t b o :: l) e M κ = doOs C l (putE (dsO o) .u e) M κ := by
  simp only [doOs, h]
  cases b <;> simp [AV.isB]
theorem p_nil {i : Nat} {lg : List Lg} {e : Env} {M : Mem} {κ : Env → Mem → Prop} : doPs C i lg [] e M κ = κ e M := rfl
theorem p_on {t : Nat} {b : Bool} {o : O} {i : Nat} {lg : List Lg} {cf : List Nat} {kp : Bool} {l : List PO} {e : Env} {M : Mem} {κ : Env → Mem → Prop} (h : look e t = .b b) :
    doPs C i lg (⟨.gd t b o, cf, kp⟩ :: l) e M κ = (okO C e M o ∧ cfC C lg o e M cf ∧ doPs C (i + 1) (lgPut kp i o e M lg) l (putE (dsO o) (vlO C e M o) e) (mmO C e M o) κ) := by
  simp only [doPs, h]
  cases b <;> simp [AV.isB]
theorem p_off {t : Nat} {b : Bool} {o : O} {i : Nat} {lg : List Lg} {cf : List Nat} {kp : Bool} {l : List PO} {e : Env} {M : Mem} {κ : Env → Mem → Prop} (h : look e t = .b (!b)) : doPs C i lg (⟨.gd t b o, cf, kp⟩ :: l) e M κ = doPs C (i + 1) lg l (putE (dsO o) .u e) M κ := by
  simp only [doPs, h]
  cases b <;> simp [AV.isB]
theorem d_mv {l : List O} {e : Env} {M : Mem} {κ : Env → Mem → Prop} (v1 : Nat) (v2 : Opd) : doOs C (.mv v1 v2 :: l) e M κ = (okO C e M (.mv v1 v2) ∧ doOs C l (putE (dsO (.mv v1 v2)) (vlO C e M (.mv v1 v2)) e) (mmO C e M (.mv v1 v2)) κ) := doOs_ng rfl
theorem p_mv {i : Nat} {lg : List Lg} {cf : List Nat} {kp : Bool} {l : List PO} {e : Env} {M : Mem} {κ : Env → Mem → Prop} (v1 : Nat) (v2 : Opd) : doPs C i lg (⟨.mv v1 v2, cf, kp⟩ :: l) e M κ = (okO C e M (.mv v1 v2) ∧ cfC C lg (.mv v1 v2) e M cf ∧ doPs C (i + 1) (lgPut kp i (.mv v1 v2) e M lg) l (putE (dsO (.mv v1 v2)) (vlO C e M (.mv v1 v2)) e) (mmO C e M (.mv v1 v2)) κ) := doPs_ng rfl
theorem d_pk {l : List O} {e : Env} {M : Mem} {κ : Env → Mem → Prop} (v1 : Nat) (v2 : Opd) (v3 : Opd) (v4 : Opd) : doOs C (.pk v1 v2 v3 v4 :: l) e M κ = (okO C e M (.pk v1 v2 v3 v4) ∧ doOs C l (putE (dsO (.pk v1 v2 v3 v4)) (vlO C e M (.pk v1 v2 v3 v4)) e) (mmO C e M (.pk v1 v2 v3 v4)) κ) := doOs_ng rfl
theorem p_pk {i : Nat} {lg : List Lg} {cf : List Nat} {kp : Bool} {l : List PO} {e : Env} {M : Mem} {κ : Env → Mem → Prop} (v1 : Nat) (v2 : Opd) (v3 : Opd) (v4 : Opd) : doPs C i lg (⟨.pk v1 v2 v3 v4, cf, kp⟩ :: l) e M κ = (okO C e M (.pk v1 v2 v3 v4) ∧ cfC C lg (.pk v1 v2 v3 v4) e M cf ∧ doPs C (i + 1) (lgPut kp i (.pk v1 v2 v3 v4) e M lg) l (putE (dsO (.pk v1 v2 v3 v4)) (vlO C e M (.pk v1 v2 v3 v4)) e) (mmO C e M (.pk v1 v2 v3 v4)) κ) := doPs_ng rfl
theorem d_bn {l : List O} {e : Env} {M : Mem} {κ : Env → Mem → Prop} (v1 : Nat) (v2 : BinOp) (v3 : Opd) (v4 : Opd) : doOs C (.bn v1 v2 v3 v4 :: l) e M κ = (okO C e M (.bn v1 v2 v3 v4) ∧ doOs C l (putE (dsO (.bn v1 v2 v3 v4)) (vlO C e M (.bn v1 v2 v3 v4)) e) (mmO C e M (.bn v1 v2 v3 v4)) κ) := doOs_ng rfl
theorem p_bn {i : Nat} {lg : List Lg} {cf : List Nat} {kp : Bool} {l : List PO} {e : Env} {M : Mem} {κ : Env → Mem → Prop} (v1 : Nat) (v2 : BinOp) (v3 : Opd) (v4 : Opd) : doPs C i lg (⟨.bn v1 v2 v3 v4, cf, kp⟩ :: l) e M κ = (okO C e M (.bn v1 v2 v3 v4) ∧ cfC C lg (.bn v1 v2 v3 v4) e M cf ∧ doPs C (i + 1) (lgPut kp i (.bn v1 v2 v3 v4) e M lg) l (putE (dsO (.bn v1 v2 v3 v4)) (vlO C e M (.bn v1 v2 v3 v4)) e) (mmO C e M (.bn v1 v2 v3 v4)) κ) := doPs_ng rfl
theorem d_un {l : List O} {e : Env} {M : Mem} {κ : Env → Mem → Prop} (v1 : Nat) (v2 : UnOp) (v3 : Opd) : doOs C (.un v1 v2 v3 :: l) e M κ = (okO C e M (.un v1 v2 v3) ∧ doOs C l (putE (dsO (.un v1 v2 v3)) (vlO C e M (.un v1 v2 v3)) e) (mmO C e M (.un v1 v2 v3)) κ) := doOs_ng rfl
theorem p_un {i : Nat} {lg : List Lg} {cf : List Nat} {kp : Bool} {l : List PO} {e : Env} {M : Mem} {κ : Env → Mem → Prop} (v1 : Nat) (v2 : UnOp) (v3 : Opd) : doPs C i lg (⟨.un v1 v2 v3, cf, kp⟩ :: l) e M κ = (okO C e M (.un v1 v2 v3) ∧ cfC C lg (.un v1 v2 v3) e M cf ∧ doPs C (i + 1) (lgPut kp i (.un v1 v2 v3) e M lg) l (putE (dsO (.un v1 v2 v3)) (vlO C e M (.un v1 v2 v3)) e) (mmO C e M (.un v1 v2 v3)) κ) := doPs_ng rfl
theorem d_be {l : List O} {e : Env} {M : Mem} {κ : Env → Mem → Prop} (v1 : Nat) (v2 : Bool) (v3 : Opd) (v4 : Opd) : doOs C (.be v1 v2 v3 v4 :: l) e M κ = (okO C e M (.be v1 v2 v3 v4) ∧ doOs C l (putE (dsO (.be v1 v2 v3 v4)) (vlO C e M (.be v1 v2 v3 v4)) e) (mmO C e M (.be v1 v2 v3 v4)) κ) := doOs_ng rfl
theorem p_be {i : Nat} {lg : List Lg} {cf : List Nat} {kp : Bool} {l : List PO} {e : Env} {M : Mem} {κ : Env → Mem → Prop} (v1 : Nat) (v2 : Bool) (v3 : Opd) (v4 : Opd) : doPs C i lg (⟨.be v1 v2 v3 v4, cf, kp⟩ :: l) e M κ = (okO C e M (.be v1 v2 v3 v4) ∧ cfC C lg (.be v1 v2 v3 v4) e M cf ∧ doPs C (i + 1) (lgPut kp i (.be v1 v2 v3 v4) e M lg) l (putE (dsO (.be v1 v2 v3 v4)) (vlO C e M (.be v1 v2 v3 v4)) e) (mmO C e M (.be v1 v2 v3 v4)) κ) := doPs_ng rfl
theorem d_nl {l : List O} {e : Env} {M : Mem} {κ : Env → Mem → Prop} (v1 : Nat) (v2 : Nat) (v3 : Bool) (v4 : Opd) : doOs C (.nl v1 v2 v3 v4 :: l) e M κ = (okO C e M (.nl v1 v2 v3 v4) ∧ doOs C l (putE (dsO (.nl v1 v2 v3 v4)) (vlO C e M (.nl v1 v2 v3 v4)) e) (mmO C e M (.nl v1 v2 v3 v4)) κ) := doOs_ng rfl
theorem p_nl {i : Nat} {lg : List Lg} {cf : List Nat} {kp : Bool} {l : List PO} {e : Env} {M : Mem} {κ : Env → Mem → Prop} (v1 : Nat) (v2 : Nat) (v3 : Bool) (v4 : Opd) : doPs C i lg (⟨.nl v1 v2 v3 v4, cf, kp⟩ :: l) e M κ = (okO C e M (.nl v1 v2 v3 v4) ∧ cfC C lg (.nl v1 v2 v3 v4) e M cf ∧ doPs C (i + 1) (lgPut kp i (.nl v1 v2 v3 v4) e M lg) l (putE (dsO (.nl v1 v2 v3 v4)) (vlO C e M (.nl v1 v2 v3 v4)) e) (mmO C e M (.nl v1 v2 v3 v4)) κ) := doPs_ng rfl
theorem d_eqa {l : List O} {e : Env} {M : Mem} {κ : Env → Mem → Prop} (v1 : Nat) (v2 : Bool) (v3 : List Ck) (v4 : Opd) (v5 : Opd) : doOs C (.eqa v1 v2 v3 v4 v5 :: l) e M κ = (okO C e M (.eqa v1 v2 v3 v4 v5) ∧ doOs C l (putE (dsO (.eqa v1 v2 v3 v4 v5)) (vlO C e M (.eqa v1 v2 v3 v4 v5)) e) (mmO C e M (.eqa v1 v2 v3 v4 v5)) κ) := doOs_ng rfl
theorem p_eqa {i : Nat} {lg : List Lg} {cf : List Nat} {kp : Bool} {l : List PO} {e : Env} {M : Mem} {κ : Env → Mem → Prop} (v1 : Nat) (v2 : Bool) (v3 : List Ck) (v4 : Opd) (v5 : Opd) : doPs C i lg (⟨.eqa v1 v2 v3 v4 v5, cf, kp⟩ :: l) e M κ = (okO C e M (.eqa v1 v2 v3 v4 v5) ∧ cfC C lg (.eqa v1 v2 v3 v4 v5) e M cf ∧ doPs C (i + 1) (lgPut kp i (.eqa v1 v2 v3 v4 v5) e M lg) l (putE (dsO (.eqa v1 v2 v3 v4 v5)) (vlO C e M (.eqa v1 v2 v3 v4 v5)) e) (mmO C e M (.eqa v1 v2 v3 v4 v5)) κ) := doPs_ng rfl
theorem d_ci {l : List O} {e : Env} {M : Mem} {κ : Env → Mem → Prop} (v1 : Nat) (v2 : IntKind) (v3 : Opd) : doOs C (.ci v1 v2 v3 :: l) e M κ = (okO C e M (.ci v1 v2 v3) ∧ doOs C l (putE (dsO (.ci v1 v2 v3)) (vlO C e M (.ci v1 v2 v3)) e) (mmO C e M (.ci v1 v2 v3)) κ) := doOs_ng rfl
theorem p_ci {i : Nat} {lg : List Lg} {cf : List Nat} {kp : Bool} {l : List PO} {e : Env} {M : Mem} {κ : Env → Mem → Prop} (v1 : Nat) (v2 : IntKind) (v3 : Opd) : doPs C i lg (⟨.ci v1 v2 v3, cf, kp⟩ :: l) e M κ = (okO C e M (.ci v1 v2 v3) ∧ cfC C lg (.ci v1 v2 v3) e M cf ∧ doPs C (i + 1) (lgPut kp i (.ci v1 v2 v3) e M lg) l (putE (dsO (.ci v1 v2 v3)) (vlO C e M (.ci v1 v2 v3)) e) (mmO C e M (.ci v1 v2 v3)) κ) := doPs_ng rfl
theorem d_cbs {l : List O} {e : Env} {M : Mem} {κ : Env → Mem → Prop} (v1 : Nat) (v2 : Opd) : doOs C (.cbs v1 v2 :: l) e M κ = (okO C e M (.cbs v1 v2) ∧ doOs C l (putE (dsO (.cbs v1 v2)) (vlO C e M (.cbs v1 v2)) e) (mmO C e M (.cbs v1 v2)) κ) := doOs_ng rfl
theorem p_cbs {i : Nat} {lg : List Lg} {cf : List Nat} {kp : Bool} {l : List PO} {e : Env} {M : Mem} {κ : Env → Mem → Prop} (v1 : Nat) (v2 : Opd) : doPs C i lg (⟨.cbs v1 v2, cf, kp⟩ :: l) e M κ = (okO C e M (.cbs v1 v2) ∧ cfC C lg (.cbs v1 v2) e M cf ∧ doPs C (i + 1) (lgPut kp i (.cbs v1 v2) e M lg) l (putE (dsO (.cbs v1 v2)) (vlO C e M (.cbs v1 v2)) e) (mmO C e M (.cbs v1 v2)) κ) := doPs_ng rfl
theorem d_csb {l : List O} {e : Env} {M : Mem} {κ : Env → Mem → Prop} (v1 : Nat) (v2 : Opd) : doOs C (.csb v1 v2 :: l) e M κ = (okO C e M (.csb v1 v2) ∧ doOs C l (putE (dsO (.csb v1 v2)) (vlO C e M (.csb v1 v2)) e) (mmO C e M (.csb v1 v2)) κ) := doOs_ng rfl
theorem p_csb {i : Nat} {lg : List Lg} {cf : List Nat} {kp : Bool} {l : List PO} {e : Env} {M : Mem} {κ : Env → Mem → Prop} (v1 : Nat) (v2 : Opd) : doPs C i lg (⟨.csb v1 v2, cf, kp⟩ :: l) e M κ = (okO C e M (.csb v1 v2) ∧ cfC C lg (.csb v1 v2) e M cf ∧ doPs C (i + 1) (lgPut kp i (.csb v1 v2) e M lg) l (putE (dsO (.csb v1 v2)) (vlO C e M (.csb v1 v2)) e) (mmO C e M (.csb v1 v2)) κ) := doPs_ng rfl
theorem d_ex {l : List O} {e : Env} {M : Mem} {κ : Env → Mem → Prop} (v1 : Nat) (v2 : Opd) (v3 : Nat) : doOs C (.ex v1 v2 v3 :: l) e M κ = (okO C e M (.ex v1 v2 v3) ∧ doOs C l (putE (dsO (.ex v1 v2 v3)) (vlO C e M (.ex v1 v2 v3)) e) (mmO C e M (.ex v1 v2 v3)) κ) := doOs_ng rfl
theorem p_ex {i : Nat} {lg : List Lg} {cf : List Nat} {kp : Bool} {l : List PO} {e : Env} {M : Mem} {κ : Env → Mem → Prop} (v1 : Nat) (v2 : Opd) (v3 : Nat) : doPs C i lg (⟨.ex v1 v2 v3, cf, kp⟩ :: l) e M κ = (okO C e M (.ex v1 v2 v3) ∧ cfC C lg (.ex v1 v2 v3) e M cf ∧ doPs C (i + 1) (lgPut kp i (.ex v1 v2 v3) e M lg) l (putE (dsO (.ex v1 v2 v3)) (vlO C e M (.ex v1 v2 v3)) e) (mmO C e M (.ex v1 v2 v3)) κ) := doPs_ng rfl
theorem d_bd {l : List O} {e : Env} {M : Mem} {κ : Env → Mem → Prop} (v1 : Nat) (v2 : List AV) (v3 : List (Nat × Nat × Opd)) : doOs C (.bd v1 v2 v3 :: l) e M κ = (okO C e M (.bd v1 v2 v3) ∧ doOs C l (putE (dsO (.bd v1 v2 v3)) (vlO C e M (.bd v1 v2 v3)) e) (mmO C e M (.bd v1 v2 v3)) κ) := doOs_ng rfl
theorem p_bd {i : Nat} {lg : List Lg} {cf : List Nat} {kp : Bool} {l : List PO} {e : Env} {M : Mem} {κ : Env → Mem → Prop} (v1 : Nat) (v2 : List AV) (v3 : List (Nat × Nat × Opd)) : doPs C i lg (⟨.bd v1 v2 v3, cf, kp⟩ :: l) e M κ = (okO C e M (.bd v1 v2 v3) ∧ cfC C lg (.bd v1 v2 v3) e M cf ∧ doPs C (i + 1) (lgPut kp i (.bd v1 v2 v3) e M lg) l (putE (dsO (.bd v1 v2 v3)) (vlO C e M (.bd v1 v2 v3)) e) (mmO C e M (.bd v1 v2 v3)) κ) := doPs_ng rfl
theorem d_fd {l : List O} {e : Env} {M : Mem} {κ : Env → Mem → Prop} (v1 : Nat) (v2 : Opd) (v3 : Nat) (v4 : Option Nat) : doOs C (.fd v1 v2 v3 v4 :: l) e M κ = (okO C e M (.fd v1 v2 v3 v4) ∧ doOs C l (putE (dsO (.fd v1 v2 v3 v4)) (vlO C e M (.fd v1 v2 v3 v4)) e) (mmO C e M (.fd v1 v2 v3 v4)) κ) := doOs_ng rfl
theorem p_fd {i : Nat} {lg : List Lg} {cf : List Nat} {kp : Bool} {l : List PO} {e : Env} {M : Mem} {κ : Env → Mem → Prop} (v1 : Nat) (v2 : Opd) (v3 : Nat) (v4 : Option Nat) : doPs C i lg (⟨.fd v1 v2 v3 v4, cf, kp⟩ :: l) e M κ = (okO C e M (.fd v1 v2 v3 v4) ∧ cfC C lg (.fd v1 v2 v3 v4) e M cf ∧ doPs C (i + 1) (lgPut kp i (.fd v1 v2 v3 v4) e M lg) l (putE (dsO (.fd v1 v2 v3 v4)) (vlO C e M (.fd v1 v2 v3 v4)) e) (mmO C e M (.fd v1 v2 v3 v4)) κ) := doPs_ng rfl
theorem d_ix {l : List O} {e : Env} {M : Mem} {κ : Env → Mem → Prop} (v1 : Nat) (v2 : Opd) (v3 : Opd) : doOs C (.ix v1 v2 v3 :: l) e M κ = (okO C e M (.ix v1 v2 v3) ∧ doOs C l (putE (dsO (.ix v1 v2 v3)) (vlO C e M (.ix v1 v2 v3)) e) (mmO C e M (.ix v1 v2 v3)) κ) := doOs_ng rfl
theorem p_ix {i : Nat} {lg : List Lg} {cf : List Nat} {kp : Bool} {l : List PO} {e : Env} {M : Mem} {κ : Env → Mem → Prop} (v1 : Nat) (v2 : Opd) (v3 : Opd) : doPs C i lg (⟨.ix v1 v2 v3, cf, kp⟩ :: l) e M κ = (okO C e M (.ix v1 v2 v3) ∧ cfC C lg (.ix v1 v2 v3) e M cf ∧ doPs C (i + 1) (lgPut kp i (.ix v1 v2 v3) e M lg) l (putE (dsO (.ix v1 v2 v3)) (vlO C e M (.ix v1 v2 v3)) e) (mmO C e M (.ix v1 v2 v3)) κ) := doPs_ng rfl
theorem d_ixa {l : List O} {e : Env} {M : Mem} {κ : Env → Mem → Prop} (v1 : Nat) (v2 : Opd) (v3 : Opd) (v4 : Nat) (v5 : Nat) (v6 : Option Nat) : doOs C (.ixa v1 v2 v3 v4 v5 v6 :: l) e M κ = (okO C e M (.ixa v1 v2 v3 v4 v5 v6) ∧ doOs C l (putE (dsO (.ixa v1 v2 v3 v4 v5 v6)) (vlO C e M (.ixa v1 v2 v3 v4 v5 v6)) e) (mmO C e M (.ixa v1 v2 v3 v4 v5 v6)) κ) := doOs_ng rfl
theorem p_ixa {i : Nat} {lg : List Lg} {cf : List Nat} {kp : Bool} {l : List PO} {e : Env} {M : Mem} {κ : Env → Mem → Prop} (v1 : Nat) (v2 : Opd) (v3 : Opd) (v4 : Nat) (v5 : Nat) (v6 : Option Nat) : doPs C i lg (⟨.ixa v1 v2 v3 v4 v5 v6, cf, kp⟩ :: l) e M κ = (okO C e M (.ixa v1 v2 v3 v4 v5 v6) ∧ cfC C lg (.ixa v1 v2 v3 v4 v5 v6) e M cf ∧ doPs C (i + 1) (lgPut kp i (.ixa v1 v2 v3 v4 v5 v6) e M lg) l (putE (dsO (.ixa v1 v2 v3 v4 v5 v6)) (vlO C e M (.ixa v1 v2 v3 v4 v5 v6)) e) (mmO C e M (.ixa v1 v2 v3 v4 v5 v6)) κ) := doPs_ng rfl
theorem d_ss {l : List O} {e : Env} {M : Mem} {κ : Env → Mem → Prop} (v1 : Nat) (v2 : Opd) (v3 : Option Opd) (v4 : Option Opd) : doOs C (.ss v1 v2 v3 v4 :: l) e M κ = (okO C e M (.ss v1 v2 v3 v4) ∧ doOs C l (putE (dsO (.ss v1 v2 v3 v4)) (vlO C e M (.ss v1 v2 v3 v4)) e) (mmO C e M (.ss v1 v2 v3 v4)) κ) := doOs_ng rfl
theorem p_ss {i : Nat} {lg : List Lg} {cf : List Nat} {kp : Bool} {l : List PO} {e : Env} {M : Mem} {κ : Env → Mem → Prop} (v1 : Nat) (v2 : Opd) (v3 : Option Opd) (v4 : Option Opd) : doPs C i lg (⟨.ss v1 v2 v3 v4, cf, kp⟩ :: l) e M κ = (okO C e M (.ss v1 v2 v3 v4) ∧ cfC C lg (.ss v1 v2 v3 v4) e M cf ∧ doPs C (i + 1) (lgPut kp i (.ss v1 v2 v3 v4) e M lg) l (putE (dsO (.ss v1 v2 v3 v4)) (vlO C e M (.ss v1 v2 v3 v4)) e) (mmO C e M (.ss v1 v2 v3 v4)) κ) := doPs_ng rfl
theorem d_sl {l : List O} {e : Env} {M : Mem} {κ : Env → Mem → Prop} (v1 : Nat) (v2 : Opd) (v3 : Option Opd) (v4 : Option Opd) (v5 : Nat) : doOs C (.sl v1 v2 v3 v4 v5 :: l) e M κ = (okO C e M (.sl v1 v2 v3 v4 v5) ∧ doOs C l (putE (dsO (.sl v1 v2 v3 v4 v5)) (vlO C e M (.sl v1 v2 v3 v4 v5)) e) (mmO C e M (.sl v1 v2 v3 v4 v5)) κ) := doOs_ng rfl
theorem p_sl {i : Nat} {lg : List Lg} {cf : List Nat} {kp : Bool} {l : List PO} {e : Env} {M : Mem} {κ : Env → Mem → Prop} (v1 : Nat) (v2 : Opd) (v3 : Option Opd) (v4 : Option Opd) (v5 : Nat) : doPs C i lg (⟨.sl v1 v2 v3 v4 v5, cf, kp⟩ :: l) e M κ = (okO C e M (.sl v1 v2 v3 v4 v5) ∧ cfC C lg (.sl v1 v2 v3 v4 v5) e M cf ∧ doPs C (i + 1) (lgPut kp i (.sl v1 v2 v3 v4 v5) e M lg) l (putE (dsO (.sl v1 v2 v3 v4 v5)) (vlO C e M (.sl v1 v2 v3 v4 v5)) e) (mmO C e M (.sl v1 v2 v3 v4 v5)) κ) := doPs_ng rfl
theorem d_sla {l : List O} {e : Env} {M : Mem} {κ : Env → Mem → Prop} (v1 : Nat) (v2 : Opd) (v3 : Nat) (v4 : Nat) : doOs C (.sla v1 v2 v3 v4 :: l) e M κ = (okO C e M (.sla v1 v2 v3 v4) ∧ doOs C l (putE (dsO (.sla v1 v2 v3 v4)) (vlO C e M (.sla v1 v2 v3 v4)) e) (mmO C e M (.sla v1 v2 v3 v4)) κ) := doOs_ng rfl
theorem p_sla {i : Nat} {lg : List Lg} {cf : List Nat} {kp : Bool} {l : List PO} {e : Env} {M : Mem} {κ : Env → Mem → Prop} (v1 : Nat) (v2 : Opd) (v3 : Nat) (v4 : Nat) : doPs C i lg (⟨.sla v1 v2 v3 v4, cf, kp⟩ :: l) e M κ = (okO C e M (.sla v1 v2 v3 v4) ∧ cfC C lg (.sla v1 v2 v3 v4) e M cf ∧ doPs C (i + 1) (lgPut kp i (.sla v1 v2 v3 v4) e M lg) l (putE (dsO (.sla v1 v2 v3 v4)) (vlO C e M (.sla v1 v2 v3 v4)) e) (mmO C e M (.sla v1 v2 v3 v4)) κ) := doPs_ng rfl
theorem d_ln {l : List O} {e : Env} {M : Mem} {κ : Env → Mem → Prop} (v1 : Nat) (v2 : Opd) : doOs C (.ln v1 v2 :: l) e M κ = (okO C e M (.ln v1 v2) ∧ doOs C l (putE (dsO (.ln v1 v2)) (vlO C e M (.ln v1 v2)) e) (mmO C e M (.ln v1 v2)) κ) := doOs_ng rfl
theorem p_ln {i : Nat} {lg : List Lg} {cf : List Nat} {kp : Bool} {l : List PO} {e : Env} {M : Mem} {κ : Env → Mem → Prop} (v1 : Nat) (v2 : Opd) : doPs C i lg (⟨.ln v1 v2, cf, kp⟩ :: l) e M κ = (okO C e M (.ln v1 v2) ∧ cfC C lg (.ln v1 v2) e M cf ∧ doPs C (i + 1) (lgPut kp i (.ln v1 v2) e M lg) l (putE (dsO (.ln v1 v2)) (vlO C e M (.ln v1 v2)) e) (mmO C e M (.ln v1 v2)) κ) := doPs_ng rfl
theorem d_lns {l : List O} {e : Env} {M : Mem} {κ : Env → Mem → Prop} (v1 : Nat) (v2 : Opd) : doOs C (.lns v1 v2 :: l) e M κ = (okO C e M (.lns v1 v2) ∧ doOs C l (putE (dsO (.lns v1 v2)) (vlO C e M (.lns v1 v2)) e) (mmO C e M (.lns v1 v2)) κ) := doOs_ng rfl
theorem p_lns {i : Nat} {lg : List Lg} {cf : List Nat} {kp : Bool} {l : List PO} {e : Env} {M : Mem} {κ : Env → Mem → Prop} (v1 : Nat) (v2 : Opd) : doPs C i lg (⟨.lns v1 v2, cf, kp⟩ :: l) e M κ = (okO C e M (.lns v1 v2) ∧ cfC C lg (.lns v1 v2) e M cf ∧ doPs C (i + 1) (lgPut kp i (.lns v1 v2) e M lg) l (putE (dsO (.lns v1 v2)) (vlO C e M (.lns v1 v2)) e) (mmO C e M (.lns v1 v2)) κ) := doPs_ng rfl
theorem d_lnm {l : List O} {e : Env} {M : Mem} {κ : Env → Mem → Prop} (v1 : Nat) (v2 : Opd) : doOs C (.lnm v1 v2 :: l) e M κ = (okO C e M (.lnm v1 v2) ∧ doOs C l (putE (dsO (.lnm v1 v2)) (vlO C e M (.lnm v1 v2)) e) (mmO C e M (.lnm v1 v2)) κ) := doOs_ng rfl
theorem p_lnm {i : Nat} {lg : List Lg} {cf : List Nat} {kp : Bool} {l : List PO} {e : Env} {M : Mem} {κ : Env → Mem → Prop} (v1 : Nat) (v2 : Opd) : doPs C i lg (⟨.lnm v1 v2, cf, kp⟩ :: l) e M κ = (okO C e M (.lnm v1 v2) ∧ cfC C lg (.lnm v1 v2) e M cf ∧ doPs C (i + 1) (lgPut kp i (.lnm v1 v2) e M lg) l (putE (dsO (.lnm v1 v2)) (vlO C e M (.lnm v1 v2)) e) (mmO C e M (.lnm v1 v2)) κ) := doPs_ng rfl
theorem d_al {l : List O} {e : Env} {M : Mem} {κ : Env → Mem → Prop} (v1 : Nat) (v2 : Nat) (v3 : List AV) : doOs C (.al v1 v2 v3 :: l) e M κ = (okO C e M (.al v1 v2 v3) ∧ doOs C l (putE (dsO (.al v1 v2 v3)) (vlO C e M (.al v1 v2 v3)) e) (mmO C e M (.al v1 v2 v3)) κ) := doOs_ng rfl
theorem p_al {i : Nat} {lg : List Lg} {cf : List Nat} {kp : Bool} {l : List PO} {e : Env} {M : Mem} {κ : Env → Mem → Prop} (v1 : Nat) (v2 : Nat) (v3 : List AV) : doPs C i lg (⟨.al v1 v2 v3, cf, kp⟩ :: l) e M κ = (okO C e M (.al v1 v2 v3) ∧ cfC C lg (.al v1 v2 v3) e M cf ∧ doPs C (i + 1) (lgPut kp i (.al v1 v2 v3) e M lg) l (putE (dsO (.al v1 v2 v3)) (vlO C e M (.al v1 v2 v3)) e) (mmO C e M (.al v1 v2 v3)) κ) := doPs_ng rfl
theorem d_bx {l : List O} {e : Env} {M : Mem} {κ : Env → Mem → Prop} (v1 : Nat) (v2 : Opd) : doOs C (.bx v1 v2 :: l) e M κ = (okO C e M (.bx v1 v2) ∧ doOs C l (putE (dsO (.bx v1 v2)) (vlO C e M (.bx v1 v2)) e) (mmO C e M (.bx v1 v2)) κ) := doOs_ng rfl
theorem p_bx {i : Nat} {lg : List Lg} {cf : List Nat} {kp : Bool} {l : List PO} {e : Env} {M : Mem} {κ : Env → Mem → Prop} (v1 : Nat) (v2 : Opd) : doPs C i lg (⟨.bx v1 v2, cf, kp⟩ :: l) e M κ = (okO C e M (.bx v1 v2) ∧ cfC C lg (.bx v1 v2) e M cf ∧ doPs C (i + 1) (lgPut kp i (.bx v1 v2) e M lg) l (putE (dsO (.bx v1 v2)) (vlO C e M (.bx v1 v2)) e) (mmO C e M (.bx v1 v2)) κ) := doPs_ng rfl
theorem d_lal {l : List O} {e : Env} {M : Mem} {κ : Env → Mem → Prop} (v1 : Nat) (v2 : AV) : doOs C (.lal v1 v2 :: l) e M κ = (okO C e M (.lal v1 v2) ∧ doOs C l (putE (dsO (.lal v1 v2)) (vlO C e M (.lal v1 v2)) e) (mmO C e M (.lal v1 v2)) κ) := doOs_ng rfl
theorem p_lal {i : Nat} {lg : List Lg} {cf : List Nat} {kp : Bool} {l : List PO} {e : Env} {M : Mem} {κ : Env → Mem → Prop} (v1 : Nat) (v2 : AV) : doPs C i lg (⟨.lal v1 v2, cf, kp⟩ :: l) e M κ = (okO C e M (.lal v1 v2) ∧ cfC C lg (.lal v1 v2) e M cf ∧ doPs C (i + 1) (lgPut kp i (.lal v1 v2) e M lg) l (putE (dsO (.lal v1 v2)) (vlO C e M (.lal v1 v2)) e) (mmO C e M (.lal v1 v2)) κ) := doPs_ng rfl
theorem d_lbx {l : List O} {e : Env} {M : Mem} {κ : Env → Mem → Prop} (v1 : Nat) (v2 : Opd) : doOs C (.lbx v1 v2 :: l) e M κ = (okO C e M (.lbx v1 v2) ∧ doOs C l (putE (dsO (.lbx v1 v2)) (vlO C e M (.lbx v1 v2)) e) (mmO C e M (.lbx v1 v2)) κ) := doOs_ng rfl
theorem p_lbx {i : Nat} {lg : List Lg} {cf : List Nat} {kp : Bool} {l : List PO} {e : Env} {M : Mem} {κ : Env → Mem → Prop} (v1 : Nat) (v2 : Opd) : doPs C i lg (⟨.lbx v1 v2, cf, kp⟩ :: l) e M κ = (okO C e M (.lbx v1 v2) ∧ cfC C lg (.lbx v1 v2) e M cf ∧ doPs C (i + 1) (lgPut kp i (.lbx v1 v2) e M lg) l (putE (dsO (.lbx v1 v2)) (vlO C e M (.lbx v1 v2)) e) (mmO C e M (.lbx v1 v2)) κ) := doPs_ng rfl
theorem d_ld {l : List O} {e : Env} {M : Mem} {κ : Env → Mem → Prop} (v1 : Nat) (v2 : Opd) (v3 : Option Nat) : doOs C (.ld v1 v2 v3 :: l) e M κ = (okO C e M (.ld v1 v2 v3) ∧ doOs C l (putE (dsO (.ld v1 v2 v3)) (vlO C e M (.ld v1 v2 v3)) e) (mmO C e M (.ld v1 v2 v3)) κ) := doOs_ng rfl
theorem p_ld {i : Nat} {lg : List Lg} {cf : List Nat} {kp : Bool} {l : List PO} {e : Env} {M : Mem} {κ : Env → Mem → Prop} (v1 : Nat) (v2 : Opd) (v3 : Option Nat) : doPs C i lg (⟨.ld v1 v2 v3, cf, kp⟩ :: l) e M κ = (okO C e M (.ld v1 v2 v3) ∧ cfC C lg (.ld v1 v2 v3) e M cf ∧ doPs C (i + 1) (lgPut kp i (.ld v1 v2 v3) e M lg) l (putE (dsO (.ld v1 v2 v3)) (vlO C e M (.ld v1 v2 v3)) e) (mmO C e M (.ld v1 v2 v3)) κ) := doPs_ng rfl
theorem d_st {l : List O} {e : Env} {M : Mem} {κ : Env → Mem → Prop} (v1 : Opd) (v2 : Opd) (v3 : Nat) : doOs C (.st v1 v2 v3 :: l) e M κ = (okO C e M (.st v1 v2 v3) ∧ doOs C l (putE (dsO (.st v1 v2 v3)) (vlO C e M (.st v1 v2 v3)) e) (mmO C e M (.st v1 v2 v3)) κ) := doOs_ng rfl
theorem p_st {i : Nat} {lg : List Lg} {cf : List Nat} {kp : Bool} {l : List PO} {e : Env} {M : Mem} {κ : Env → Mem → Prop} (v1 : Opd) (v2 : Opd) (v3 : Nat) : doPs C i lg (⟨.st v1 v2 v3, cf, kp⟩ :: l) e M κ = (okO C e M (.st v1 v2 v3) ∧ cfC C lg (.st v1 v2 v3) e M cf ∧ doPs C (i + 1) (lgPut kp i (.st v1 v2 v3) e M lg) l (putE (dsO (.st v1 v2 v3)) (vlO C e M (.st v1 v2 v3)) e) (mmO C e M (.st v1 v2 v3)) κ) := doPs_ng rfl
theorem d_fa {l : List O} {e : Env} {M : Mem} {κ : Env → Mem → Prop} (v1 : Nat) (v2 : Opd) (v3 : Nat) : doOs C (.fa v1 v2 v3 :: l) e M κ = (okO C e M (.fa v1 v2 v3) ∧ doOs C l (putE (dsO (.fa v1 v2 v3)) (vlO C e M (.fa v1 v2 v3)) e) (mmO C e M (.fa v1 v2 v3)) κ) := doOs_ng rfl
theorem p_fa {i : Nat} {lg : List Lg} {cf : List Nat} {kp : Bool} {l : List PO} {e : Env} {M : Mem} {κ : Env → Mem → Prop} (v1 : Nat) (v2 : Opd) (v3 : Nat) : doPs C i lg (⟨.fa v1 v2 v3, cf, kp⟩ :: l) e M κ = (okO C e M (.fa v1 v2 v3) ∧ cfC C lg (.fa v1 v2 v3) e M cf ∧ doPs C (i + 1) (lgPut kp i (.fa v1 v2 v3) e M lg) l (putE (dsO (.fa v1 v2 v3)) (vlO C e M (.fa v1 v2 v3)) e) (mmO C e M (.fa v1 v2 v3)) κ) := doPs_ng rfl
theorem d_ia {l : List O} {e : Env} {M : Mem} {κ : Env → Mem → Prop} (v1 : Nat) (v2 : Opd) (v3 : Opd) (v4 : Nat) : doOs C (.ia v1 v2 v3 v4 :: l) e M κ = (okO C e M (.ia v1 v2 v3 v4) ∧ doOs C l (putE (dsO (.ia v1 v2 v3 v4)) (vlO C e M (.ia v1 v2 v3 v4)) e) (mmO C e M (.ia v1 v2 v3 v4)) κ) := doOs_ng rfl
theorem p_ia {i : Nat} {lg : List Lg} {cf : List Nat} {kp : Bool} {l : List PO} {e : Env} {M : Mem} {κ : Env → Mem → Prop} (v1 : Nat) (v2 : Opd) (v3 : Opd) (v4 : Nat) : doPs C i lg (⟨.ia v1 v2 v3 v4, cf, kp⟩ :: l) e M κ = (okO C e M (.ia v1 v2 v3 v4) ∧ cfC C lg (.ia v1 v2 v3 v4) e M cf ∧ doPs C (i + 1) (lgPut kp i (.ia v1 v2 v3 v4) e M lg) l (putE (dsO (.ia v1 v2 v3 v4)) (vlO C e M (.ia v1 v2 v3 v4)) e) (mmO C e M (.ia v1 v2 v3 v4)) κ) := doPs_ng rfl
theorem d_iaa {l : List O} {e : Env} {M : Mem} {κ : Env → Mem → Prop} (v1 : Nat) (v2 : Opd) (v3 : Opd) (v4 : Nat) (v5 : Nat) : doOs C (.iaa v1 v2 v3 v4 v5 :: l) e M κ = (okO C e M (.iaa v1 v2 v3 v4 v5) ∧ doOs C l (putE (dsO (.iaa v1 v2 v3 v4 v5)) (vlO C e M (.iaa v1 v2 v3 v4 v5)) e) (mmO C e M (.iaa v1 v2 v3 v4 v5)) κ) := doOs_ng rfl
theorem p_iaa {i : Nat} {lg : List Lg} {cf : List Nat} {kp : Bool} {l : List PO} {e : Env} {M : Mem} {κ : Env → Mem → Prop} (v1 : Nat) (v2 : Opd) (v3 : Opd) (v4 : Nat) (v5 : Nat) : doPs C i lg (⟨.iaa v1 v2 v3 v4 v5, cf, kp⟩ :: l) e M κ = (okO C e M (.iaa v1 v2 v3 v4 v5) ∧ cfC C lg (.iaa v1 v2 v3 v4 v5) e M cf ∧ doPs C (i + 1) (lgPut kp i (.iaa v1 v2 v3 v4 v5) e M lg) l (putE (dsO (.iaa v1 v2 v3 v4 v5)) (vlO C e M (.iaa v1 v2 v3 v4 v5)) e) (mmO C e M (.iaa v1 v2 v3 v4 v5)) κ) := doPs_ng rfl
theorem d_bs {l : List O} {e : Env} {M : Mem} {κ : Env → Mem → Prop} (v1 : Nat) (v2 : AV) (v3 : Nat) (v4 : Nat) (v5 : List (Nat × Opd)) : doOs C (.bs v1 v2 v3 v4 v5 :: l) e M κ = (okO C e M (.bs v1 v2 v3 v4 v5) ∧ doOs C l (putE (dsO (.bs v1 v2 v3 v4 v5)) (vlO C e M (.bs v1 v2 v3 v4 v5)) e) (mmO C e M (.bs v1 v2 v3 v4 v5)) κ) := doOs_ng rfl
theorem p_bs {i : Nat} {lg : List Lg} {cf : List Nat} {kp : Bool} {l : List PO} {e : Env} {M : Mem} {κ : Env → Mem → Prop} (v1 : Nat) (v2 : AV) (v3 : Nat) (v4 : Nat) (v5 : List (Nat × Opd)) : doPs C i lg (⟨.bs v1 v2 v3 v4 v5, cf, kp⟩ :: l) e M κ = (okO C e M (.bs v1 v2 v3 v4 v5) ∧ cfC C lg (.bs v1 v2 v3 v4 v5) e M cf ∧ doPs C (i + 1) (lgPut kp i (.bs v1 v2 v3 v4 v5) e M lg) l (putE (dsO (.bs v1 v2 v3 v4 v5)) (vlO C e M (.bs v1 v2 v3 v4 v5)) e) (mmO C e M (.bs v1 v2 v3 v4 v5)) κ) := doPs_ng rfl
theorem d_lbs {l : List O} {e : Env} {M : Mem} {κ : Env → Mem → Prop} (v1 : Nat) (v2 : AV) (v3 : Nat) (v4 : Nat) (v5 : List (Nat × Opd)) : doOs C (.lbs v1 v2 v3 v4 v5 :: l) e M κ = (okO C e M (.lbs v1 v2 v3 v4 v5) ∧ doOs C l (putE (dsO (.lbs v1 v2 v3 v4 v5)) (vlO C e M (.lbs v1 v2 v3 v4 v5)) e) (mmO C e M (.lbs v1 v2 v3 v4 v5)) κ) := doOs_ng rfl
theorem p_lbs {i : Nat} {lg : List Lg} {cf : List Nat} {kp : Bool} {l : List PO} {e : Env} {M : Mem} {κ : Env → Mem → Prop} (v1 : Nat) (v2 : AV) (v3 : Nat) (v4 : Nat) (v5 : List (Nat × Opd)) : doPs C i lg (⟨.lbs v1 v2 v3 v4 v5, cf, kp⟩ :: l) e M κ = (okO C e M (.lbs v1 v2 v3 v4 v5) ∧ cfC C lg (.lbs v1 v2 v3 v4 v5) e M cf ∧ doPs C (i + 1) (lgPut kp i (.lbs v1 v2 v3 v4 v5) e M lg) l (putE (dsO (.lbs v1 v2 v3 v4 v5)) (vlO C e M (.lbs v1 v2 v3 v4 v5)) e) (mmO C e M (.lbs v1 v2 v3 v4 v5)) κ) := doPs_ng rfl
theorem d_mk {l : List O} {e : Env} {M : Mem} {κ : Env → Mem → Prop} (v1 : Nat) (v2 : AV) (v3 : Nat) (v4 : Nat) (v5 : Opd) : doOs C (.mk v1 v2 v3 v4 v5 :: l) e M κ = (okO C e M (.mk v1 v2 v3 v4 v5) ∧ doOs C l (putE (dsO (.mk v1 v2 v3 v4 v5)) (vlO C e M (.mk v1 v2 v3 v4 v5)) e) (mmO C e M (.mk v1 v2 v3 v4 v5)) κ) := doOs_ng rfl
theorem p_mk {i : Nat} {lg : List Lg} {cf : List Nat} {kp : Bool} {l : List PO} {e : Env} {M : Mem} {κ : Env → Mem → Prop} (v1 : Nat) (v2 : AV) (v3 : Nat) (v4 : Nat) (v5 : Opd) : doPs C i lg (⟨.mk v1 v2 v3 v4 v5, cf, kp⟩ :: l) e M κ = (okO C e M (.mk v1 v2 v3 v4 v5) ∧ cfC C lg (.mk v1 v2 v3 v4 v5) e M cf ∧ doPs C (i + 1) (lgPut kp i (.mk v1 v2 v3 v4 v5) e M lg) l (putE (dsO (.mk v1 v2 v3 v4 v5)) (vlO C e M (.mk v1 v2 v3 v4 v5)) e) (mmO C e M (.mk v1 v2 v3 v4 v5)) κ) := doPs_ng rfl
theorem d_ap {l : List O} {e : Env} {M : Mem} {κ : Env → Mem → Prop} (v1 : Nat) (v2 : Opd) (v3 : Opd) (v4 : Nat) (v5 : Nat) : doOs C (.ap v1 v2 v3 v4 v5 :: l) e M κ = (okO C e M (.ap v1 v2 v3 v4 v5) ∧ doOs C l (putE (dsO (.ap v1 v2 v3 v4 v5)) (vlO C e M (.ap v1 v2 v3 v4 v5)) e) (mmO C e M (.ap v1 v2 v3 v4 v5)) κ) := doOs_ng rfl
theorem p_ap {i : Nat} {lg : List Lg} {cf : List Nat} {kp : Bool} {l : List PO} {e : Env} {M : Mem} {κ : Env → Mem → Prop} (v1 : Nat) (v2 : Opd) (v3 : Opd) (v4 : Nat) (v5 : Nat) : doPs C i lg (⟨.ap v1 v2 v3 v4 v5, cf, kp⟩ :: l) e M κ = (okO C e M (.ap v1 v2 v3 v4 v5) ∧ cfC C lg (.ap v1 v2 v3 v4 v5) e M cf ∧ doPs C (i + 1) (lgPut kp i (.ap v1 v2 v3 v4 v5) e M lg) l (putE (dsO (.ap v1 v2 v3 v4 v5)) (vlO C e M (.ap v1 v2 v3 v4 v5)) e) (mmO C e M (.ap v1 v2 v3 v4 v5)) κ) := doPs_ng rfl
theorem d_cp {l : List O} {e : Env} {M : Mem} {κ : Env → Mem → Prop} (v1 : Nat) (v2 : Opd) (v3 : Opd) (v4 : Nat) : doOs C (.cp v1 v2 v3 v4 :: l) e M κ = (okO C e M (.cp v1 v2 v3 v4) ∧ doOs C l (putE (dsO (.cp v1 v2 v3 v4)) (vlO C e M (.cp v1 v2 v3 v4)) e) (mmO C e M (.cp v1 v2 v3 v4)) κ) := doOs_ng rfl
theorem p_cp {i : Nat} {lg : List Lg} {cf : List Nat} {kp : Bool} {l : List PO} {e : Env} {M : Mem} {κ : Env → Mem → Prop} (v1 : Nat) (v2 : Opd) (v3 : Opd) (v4 : Nat) : doPs C i lg (⟨.cp v1 v2 v3 v4, cf, kp⟩ :: l) e M κ = (okO C e M (.cp v1 v2 v3 v4) ∧ cfC C lg (.cp v1 v2 v3 v4) e M cf ∧ doPs C (i + 1) (lgPut kp i (.cp v1 v2 v3 v4) e M lg) l (putE (dsO (.cp v1 v2 v3 v4)) (vlO C e M (.cp v1 v2 v3 v4)) e) (mmO C e M (.cp v1 v2 v3 v4)) κ) := doPs_ng rfl
theorem d_cl {l : List O} {e : Env} {M : Mem} {κ : Env → Mem → Prop} (v1 : Option Nat) (v2 : Nat) (v3 : List Opd) : doOs C (.cl v1 v2 v3 :: l) e M κ = (okO C e M (.cl v1 v2 v3) ∧ doOs C l (putE (dsO (.cl v1 v2 v3)) (vlO C e M (.cl v1 v2 v3)) e) (mmO C e M (.cl v1 v2 v3)) κ) := doOs_ng rfl
theorem p_cl {i : Nat} {lg : List Lg} {cf : List Nat} {kp : Bool} {l : List PO} {e : Env} {M : Mem} {κ : Env → Mem → Prop} (v1 : Option Nat) (v2 : Nat) (v3 : List Opd) : doPs C i lg (⟨.cl v1 v2 v3, cf, kp⟩ :: l) e M κ = (okO C e M (.cl v1 v2 v3) ∧ cfC C lg (.cl v1 v2 v3) e M cf ∧ doPs C (i + 1) (lgPut kp i (.cl v1 v2 v3) e M lg) l (putE (dsO (.cl v1 v2 v3)) (vlO C e M (.cl v1 v2 v3)) e) (mmO C e M (.cl v1 v2 v3)) κ) := doPs_ng rfl
theorem d_cv {l : List O} {e : Env} {M : Mem} {κ : Env → Mem → Prop} (v1 : Option Nat) (v2 : Opd) (v3 : List Opd) : doOs C (.cv v1 v2 v3 :: l) e M κ = (okO C e M (.cv v1 v2 v3) ∧ doOs C l (putE (dsO (.cv v1 v2 v3)) (vlO C e M (.cv v1 v2 v3)) e) (mmO C e M (.cv v1 v2 v3)) κ) := doOs_ng rfl
theorem p_cv {i : Nat} {lg : List Lg} {cf : List Nat} {kp : Bool} {l : List PO} {e : Env} {M : Mem} {κ : Env → Mem → Prop} (v1 : Option Nat) (v2 : Opd) (v3 : List Opd) : doPs C i lg (⟨.cv v1 v2 v3, cf, kp⟩ :: l) e M κ = (okO C e M (.cv v1 v2 v3) ∧ cfC C lg (.cv v1 v2 v3) e M cf ∧ doPs C (i + 1) (lgPut kp i (.cv v1 v2 v3) e M lg) l (putE (dsO (.cv v1 v2 v3)) (vlO C e M (.cv v1 v2 v3)) e) (mmO C e M (.cv v1 v2 v3)) κ) := doPs_ng rfl
theorem d_mf {l : List O} {e : Env} {M : Mem} {κ : Env → Mem → Prop} (v1 : Nat) (v2 : Nat) (v3 : List Opd) : doOs C (.mf v1 v2 v3 :: l) e M κ = (okO C e M (.mf v1 v2 v3) ∧ doOs C l (putE (dsO (.mf v1 v2 v3)) (vlO C e M (.mf v1 v2 v3)) e) (mmO C e M (.mf v1 v2 v3)) κ) := doOs_ng rfl
theorem p_mf {i : Nat} {lg : List Lg} {cf : List Nat} {kp : Bool} {l : List PO} {e : Env} {M : Mem} {κ : Env → Mem → Prop} (v1 : Nat) (v2 : Nat) (v3 : List Opd) : doPs C i lg (⟨.mf v1 v2 v3, cf, kp⟩ :: l) e M κ = (okO C e M (.mf v1 v2 v3) ∧ cfC C lg (.mf v1 v2 v3) e M cf ∧ doPs C (i + 1) (lgPut kp i (.mf v1 v2 v3) e M lg) l (putE (dsO (.mf v1 v2 v3)) (vlO C e M (.mf v1 v2 v3)) e) (mmO C e M (.mf v1 v2 v3)) κ) := doPs_ng rfl
theorem d_nc {l : List O} {e : Env} {M : Mem} {κ : Env → Mem → Prop} (v1 : Nat) (v2 : Opd) : doOs C (.nc v1 v2 :: l) e M κ = (okO C e M (.nc v1 v2) ∧ doOs C l (putE (dsO (.nc v1 v2)) (vlO C e M (.nc v1 v2)) e) (mmO C e M (.nc v1 v2)) κ) := doOs_ng rfl
theorem p_nc {i : Nat} {lg : List Lg} {cf : List Nat} {kp : Bool} {l : List PO} {e : Env} {M : Mem} {κ : Env → Mem → Prop} (v1 : Nat) (v2 : Opd) : doPs C i lg (⟨.nc v1 v2, cf, kp⟩ :: l) e M κ = (okO C e M (.nc v1 v2) ∧ cfC C lg (.nc v1 v2) e M cf ∧ doPs C (i + 1) (lgPut kp i (.nc v1 v2) e M lg) l (putE (dsO (.nc v1 v2)) (vlO C e M (.nc v1 v2)) e) (mmO C e M (.nc v1 v2)) κ) := doPs_ng rfl
theorem d_mm {l : List O} {e : Env} {M : Mem} {κ : Env → Mem → Prop} (v1 : Nat) (v2 : Bool) (v3 : Opd) (v4 : Opd) : doOs C (.mm v1 v2 v3 v4 :: l) e M κ = (okO C e M (.mm v1 v2 v3 v4) ∧ doOs C l (putE (dsO (.mm v1 v2 v3 v4)) (vlO C e M (.mm v1 v2 v3 v4)) e) (mmO C e M (.mm v1 v2 v3 v4)) κ) := doOs_ng rfl
theorem p_mm {i : Nat} {lg : List Lg} {cf : List Nat} {kp : Bool} {l : List PO} {e : Env} {M : Mem} {κ : Env → Mem → Prop} (v1 : Nat) (v2 : Bool) (v3 : Opd) (v4 : Opd) : doPs C i lg (⟨.mm v1 v2 v3 v4, cf, kp⟩ :: l) e M κ = (okO C e M (.mm v1 v2 v3 v4) ∧ cfC C lg (.mm v1 v2 v3 v4) e M cf ∧ doPs C (i + 1) (lgPut kp i (.mm v1 v2 v3 v4) e M lg) l (putE (dsO (.mm v1 v2 v3 v4)) (vlO C e M (.mm v1 v2 v3 v4)) e) (mmO C e M (.mm v1 v2 v3 v4)) κ) := doPs_ng rfl
theorem d_mkm {l : List O} {e : Env} {M : Mem} {κ : Env → Mem → Prop} (v1 : Nat) : doOs C (.mkm v1 :: l) e M κ = (okO C e M (.mkm v1) ∧ doOs C l (putE (dsO (.mkm v1)) (vlO C e M (.mkm v1)) e) (mmO C e M (.mkm v1)) κ) := doOs_ng rfl
theorem p_mkm {i : Nat} {lg : List Lg} {cf : List Nat} {kp : Bool} {l : List PO} {e : Env} {M : Mem} {κ : Env → Mem → Prop} (v1 : Nat) : doPs C i lg (⟨.mkm v1, cf, kp⟩ :: l) e M κ = (okO C e M (.mkm v1) ∧ cfC C lg (.mkm v1) e M cf ∧ doPs C (i + 1) (lgPut kp i (.mkm v1) e M lg) l (putE (dsO (.mkm v1)) (vlO C e M (.mkm v1)) e) (mmO C e M (.mkm v1)) κ) := doPs_ng rfl
theorem d_lk {l : List O} {e : Env} {M : Mem} {κ : Env → Mem → Prop} (v1 : Nat) (v2 : Opd) (v3 : Opd) (v4 : AV) (v5 : List Ck) (v6 : Bool) : doOs C (.lk v1 v2 v3 v4 v5 v6 :: l) e M κ = (okO C e M (.lk v1 v2 v3 v4 v5 v6) ∧ doOs C l (putE (dsO (.lk v1 v2 v3 v4 v5 v6)) (vlO C e M (.lk v1 v2 v3 v4 v5 v6)) e) (mmO C e M (.lk v1 v2 v3 v4 v5 v6)) κ) := doOs_ng rfl
theorem p_lk {i : Nat} {lg : List Lg} {cf : List Nat} {kp : Bool} {l : List PO} {e : Env} {M : Mem} {κ : Env → Mem → Prop} (v1 : Nat) (v2 : Opd) (v3 : Opd) (v4 : AV) (v5 : List Ck) (v6 : Bool) : doPs C i lg (⟨.lk v1 v2 v3 v4 v5 v6, cf, kp⟩ :: l) e M κ = (okO C e M (.lk v1 v2 v3 v4 v5 v6) ∧ cfC C lg (.lk v1 v2 v3 v4 v5 v6) e M cf ∧ doPs C (i + 1) (lgPut kp i (.lk v1 v2 v3 v4 v5 v6) e M lg) l (putE (dsO (.lk v1 v2 v3 v4 v5 v6)) (vlO C e M (.lk v1 v2 v3 v4 v5 v6)) e) (mmO C e M (.lk v1 v2 v3 v4 v5 v6)) κ) := doPs_ng rfl
theorem d_mu {l : List O} {e : Env} {M : Mem} {κ : Env → Mem → Prop} (v1 : Opd) (v2 : Opd) (v3 : Opd) (v4 : List Ck) : doOs C (.mu v1 v2 v3 v4 :: l) e M κ = (okO C e M (.mu v1 v2 v3 v4) ∧ doOs C l (putE (dsO (.mu v1 v2 v3 v4)) (vlO C e M (.mu v1 v2 v3 v4)) e) (mmO C e M (.mu v1 v2 v3 v4)) κ) := doOs_ng rfl
theorem p_mu {i : Nat} {lg : List Lg} {cf : List Nat} {kp : Bool} {l : List PO} {e : Env} {M : Mem} {κ : Env → Mem → Prop} (v1 : Opd) (v2 : Opd) (v3 : Opd) (v4 : List Ck) : doPs C i lg (⟨.mu v1 v2 v3 v4, cf, kp⟩ :: l) e M κ = (okO C e M (.mu v1 v2 v3 v4) ∧ cfC C lg (.mu v1 v2 v3 v4) e M cf ∧ doPs C (i + 1) (lgPut kp i (.mu v1 v2 v3 v4) e M lg) l (putE (dsO (.mu v1 v2 v3 v4)) (vlO C e M (.mu v1 v2 v3 v4)) e) (mmO C e M (.mu v1 v2 v3 v4)) κ) := doPs_ng rfl
theorem d_dl {l : List O} {e : Env} {M : Mem} {κ : Env → Mem → Prop} (v1 : Opd) (v2 : Opd) (v3 : List Ck) : doOs C (.dl v1 v2 v3 :: l) e M κ = (okO C e M (.dl v1 v2 v3) ∧ doOs C l (putE (dsO (.dl v1 v2 v3)) (vlO C e M (.dl v1 v2 v3)) e) (mmO C e M (.dl v1 v2 v3)) κ) := doOs_ng rfl
theorem p_dl {i : Nat} {lg : List Lg} {cf : List Nat} {kp : Bool} {l : List PO} {e : Env} {M : Mem} {κ : Env → Mem → Prop} (v1 : Opd) (v2 : Opd) (v3 : List Ck) : doPs C i lg (⟨.dl v1 v2 v3, cf, kp⟩ :: l) e M κ = (okO C e M (.dl v1 v2 v3) ∧ cfC C lg (.dl v1 v2 v3) e M cf ∧ doPs C (i + 1) (lgPut kp i (.dl v1 v2 v3) e M lg) l (putE (dsO (.dl v1 v2 v3)) (vlO C e M (.dl v1 v2 v3)) e) (mmO C e M (.dl v1 v2 v3)) κ) := doPs_ng rfl
theorem d_rs {l : List O} {e : Env} {M : Mem} {κ : Env → Mem → Prop} (v1 : Nat) (v2 : Opd) : doOs C (.rs v1 v2 :: l) e M κ = (okO C e M (.rs v1 v2) ∧ doOs C l (putE (dsO (.rs v1 v2)) (vlO C e M (.rs v1 v2)) e) (mmO C e M (.rs v1 v2)) κ) := doOs_ng rfl
theorem p_rs {i : Nat} {lg : List Lg} {cf : List Nat} {kp : Bool} {l : List PO} {e : Env} {M : Mem} {κ : Env → Mem → Prop} (v1 : Nat) (v2 : Opd) : doPs C i lg (⟨.rs v1 v2, cf, kp⟩ :: l) e M κ = (okO C e M (.rs v1 v2) ∧ cfC C lg (.rs v1 v2) e M cf ∧ doPs C (i + 1) (lgPut kp i (.rs v1 v2) e M lg) l (putE (dsO (.rs v1 v2)) (vlO C e M (.rs v1 v2)) e) (mmO C e M (.rs v1 v2)) κ) := doPs_ng rfl
theorem d_nx {l : List O} {e : Env} {M : Mem} {κ : Env → Mem → Prop} (v1 : Nat) (v2 : Opd) : doOs C (.nx v1 v2 :: l) e M κ = (okO C e M (.nx v1 v2) ∧ doOs C l (putE (dsO (.nx v1 v2)) (vlO C e M (.nx v1 v2)) e) (mmO C e M (.nx v1 v2)) κ) := doOs_ng rfl
theorem p_nx {i : Nat} {lg : List Lg} {cf : List Nat} {kp : Bool} {l : List PO} {e : Env} {M : Mem} {κ : Env → Mem → Prop} (v1 : Nat) (v2 : Opd) : doPs C i lg (⟨.nx v1 v2, cf, kp⟩ :: l) e M κ = (okO C e M (.nx v1 v2) ∧ cfC C lg (.nx v1 v2) e M cf ∧ doPs C (i + 1) (lgPut kp i (.nx v1 v2) e M lg) l (putE (dsO (.nx v1 v2)) (vlO C e M (.nx v1 v2)) e) (mmO C e M (.nx v1 v2)) κ) := doPs_ng rfl
theorem x_b {id : Nat} {s : S} {e : Env} {M : Mem} {κ : Kont} : exec C (.b id s) e M κ = exec C s e M (kBlk id κ) := rfl
theorem x_x {id : Nat} {e : Env} {M : Mem} {κ : Kont} : exec C (.x id) e M κ = κ (.ex id) e M := rfl
theorem x_r {e : Env} {M : Mem} {κ : Kont} : exec C .r e M κ = κ .rt e M := rfl
end
theorem ex_tp {a : List AV} {p : List AV → Prop} : (∃ xs, AV.tp a = .tp xs ∧ p xs) = p a := propext ⟨fun ⟨_, h, k⟩ => by cases h; exact k, fun h => ⟨a, rfl, h⟩⟩
theorem ex_ag {a : List AV} {p : List AV → Prop} : (∃ xs, AV.ag a = .ag xs ∧ p xs) = p a := propext ⟨fun ⟨_, h, k⟩ => by cases h; exact k, fun h => ⟨a, rfl, h⟩⟩
theorem toNat_nat (i : Nat) : (i : Int).toNat = i := rfl
theorem w64 {x : Int} (h1 : -9223372036854775808 ≤ x) (h2 : x ≤ 9223372036854775807) : IntKind.i64.wrap x = x := by rw [IntKind.wrap_i64]; omega

/-! Heaps that grow. -/
structure Ext (H H' : AH) : Prop where
  n : H.n ≤ H'.n
  at' : ∀ i, i < H.n → H'.at' i = H.at' i
theorem Ext.refl (H : AH) : Ext H H := ⟨Nat.le_refl _, fun _ _ => rfl⟩
theorem Ext.trans {a b c : AH} (h : Ext a b) (k : Ext b c) : Ext a c := ⟨Nat.le_trans h.n k.n, fun i hi => by rw [k.at' i (Nat.lt_of_lt_of_le hi h.n), h.at' i hi]⟩
theorem Ext.new (H : AH) (o : Ob) : Ext H (H.new o) := ⟨Nat.le_succ _, fun i hi => by simp only [AH.new]; rw [if_neg (by omega)]⟩
theorem Ext.set {H H' : AH} {id : Nat} {o : Ob} (h : Ext H H') (hi : H.n ≤ id) : Ext H (H'.set id o) := ⟨h.n, fun i hi' => by simp only [AH.set]; rw [if_neg (by omega)]; exact h.at' i hi'⟩
@[simp] theorem new_n {H : AH} {o : Ob} : (H.new o).n = H.n + 1 := rfl
@[simp] theorem set_n {H : AH} {id : Nat} {o : Ob} : (H.set id o).n = H.n := rfl
@[simp] theorem new_at {H : AH} {o : Ob} : (H.new o).at' H.n = o := by simp [AH.new]
@[simp] theorem set_at {H : AH} {id : Nat} {o : Ob} : (H.set id o).at' id = o := by simp [AH.set]
theorem new_old {H : AH} {o : Ob} {i : Nat} (h : i < H.n) : (H.new o).at' i = H.at' i := by simp only [AH.new]; rw [if_neg (by omega)]
theorem set_ne {H : AH} {id i : Nat} {o : Ob} (h : i ≠ id) : (H.set id o).at' i = H.at' i := by simp only [AH.set]; rw [if_neg h]
theorem set_set {H : AH} {id : Nat} {o o' : Ob} : (H.set id o).set id o' = H.set id o' := by
  simp only [AH.set]; congr 1; funext i; by_cases h : i = id <;> simp [h]
theorem new_set {H : AH} {o o' : Ob} : (H.new o).set H.n o' = H.new o' := by
  simp only [AH.set, AH.new]; congr 1; funext i; by_cases h : i = H.n <;> simp [h]

/-! Slices. -/
/-- The object that a slice leads to. -/
def idA : AV → List Nat
  | .sl id _ _ => [id]
  | _ => []
/-- a is a slice whose elements are els, of z cells each, and they may be read. -/
inductive Sl (H : AH) (z : Nat) : AV → List AV → Prop
  | nil : Sl H z .ns []
  | sl {id ix st : Nat} {rw : Bool} {xs els : List AV} : id < H.n → H.at' id = .arr rw st z xs → ix + els.length ≤ xs.length → (xs.drop ix).take els.length = els → (st = 2 → ix + els.length = xs.length) → Sl H z (.sl id ix els.length) els
/-- a is a slice that owns its row. -/
inductive Mn (H : AH) (z : Nat) : AV → List AV → Prop
  | nil : Mn H z .ns []
  | own {id st : Nat} {xs : List AV} : id < H.n → H.at' id = .arr true st z xs → Mn H z (.sl id 0 xs.length) xs
section
variable {H H' : AH} {a : AV} {els : List AV} {z : Nat}
theorem Sl.lt (h : Sl H z a els) : ∀ i, i ∈ idA a → i < H.n := by
  cases h with
  | nil => intro i hi; cases hi
  | sl h1 h2 h3 h4 h5 => intro i hi; simp only [idA, List.mem_singleton] at hi; rw [hi]; exact h1
theorem Sl.fr (h : Sl H z a els) (hn : H.n ≤ H'.n) (ha : ∀ i, i ∈ idA a → H'.at' i = H.at' i) : Sl H' z a els := by
  cases h with
  | nil => exact .nil
  | sl h1 h2 h3 h4 h5 => exact .sl (Nat.lt_of_lt_of_le h1 hn) (by rw [ha _ (by simp [idA])]; exact h2) h3 h4 h5
theorem Sl.ext (h : Sl H z a els) (he : Ext H H') : Sl H' z a els := h.fr he.n fun i hi => he.at' i (h.lt i hi)
theorem Sl.len (h : Sl H z a els) : lenV a = .i .i64 els.length ∧ lenC a := by
  cases h with
  | nil => exact ⟨rfl, trivial⟩
  | sl => exact ⟨rfl, trivial⟩
theorem Sl.rd (h : Sl H z a els) : slOk H a ∧ slZ H z a ∧ slEls H a = els := by
  cases h with
  | nil => exact ⟨trivial, trivial, rfl⟩
  | sl h1 h2 h3 h4 h5 => simp only [slOk, slZ, slEls, h2]; exact ⟨⟨h3, h5⟩, trivial, h4⟩
theorem Sl.one (h : Sl H z a els) : a.cells = [a] := by cases h <;> rfl
theorem Sl.out (h : Sl H z a els) : a.outs = true := by cases h <;> rfl
theorem Sl.src (h : Sl H z a els) (L : List Lv) (g : Nat) : srcV ⟨L, g, H⟩ a = els ∧ srcC ⟨L, g, H⟩ z a := by
  obtain ⟨h1, h2, h3⟩ := h.rd
  cases h <;> exact ⟨h3, h1, h2⟩
/-- An element's address, and what it holds. -/
theorem Sl.ia (h : Sl H z a els) {j : Int} (h0 : 0 ≤ j) (hj : j < els.length) : slZ H z a ∧ iaC j a ∧ faC (iaV j.toNat a) ∧
    ∀ (L : List Lv) (g off : Nat) (n : Option Nat), partFits (els.getD j.toNat .u).cells off n → ldC ⟨L, g, H⟩ n (faV off (iaV j.toNat a)) ∧ ldX ⟨L, g, H⟩ n (faV off (iaV j.toNat a)) = partOf (els.getD j.toNat .u).cells off n := by
  cases h with
  | nil => simp at hj; omega
  | @sl id ix st rw xs els h1 h2 h3 h4 h5 =>
    have hjn : j.toNat < els.length := by omega
    have hx : xs[ix + j.toNat]? = some els[j.toNat] := by
      have := congrArg (·[j.toNat]?) h4
      simp only [List.getElem?_take, if_pos hjn, List.getElem?_drop] at this
      rw [this, List.getElem?_eq_getElem hjn]
    have hg : xs.getD (ix + j.toNat) .u = els.getD j.toNat .u := by simp [List.getD, hx, List.getElem?_eq_getElem hjn]
    refine ⟨by simp only [slZ, h2], ⟨h0, hj⟩, trivial, fun L g off n hp => ⟨?_, ?_⟩⟩
    · simp only [iaV, faV, ldC, h2, hg, Nat.zero_add]
      exact ⟨h5, by omega, hp⟩
    · simp only [iaV, faV, ldX, ldV, h2, hg, Nat.zero_add]
/-- A cell, read at once. -/
theorem fa0 (j : Nat) (a : AV) : faV 0 (iaV j a) = iaV j a := by cases a <;> rfl
theorem Sl.ia1 (h : Sl H z a els) {j : Int} (h0 : 0 ≤ j) (hj : j < els.length) {v : AV} (hv : (els.getD j.toNat .u).cells = [v]) (L : List Lv) (g : Nat) : slZ H z a ∧ iaC j a ∧ ldC ⟨L, g, H⟩ none (iaV j.toNat a) ∧ ldX ⟨L, g, H⟩ none (iaV j.toNat a) = v := by
  obtain ⟨h1, h2, -, h4⟩ := h.ia h0 hj
  have := h4 L g 0 none (by rw [hv]; simp [partFits])
  rw [fa0, hv] at this
  exact ⟨h1, h2, this.1, this.2⟩
/-- A row whose places agree. -/
def Cl (H : AH) (a : AV) : Prop := ∀ i, i ∈ idA a → ∀ rw st z xs, H.at' i = .arr rw st z xs → st ≠ 2
theorem Cl.fr (h : Cl H a) (ha : ∀ i, i ∈ idA a → H'.at' i = H.at' i) : Cl H' a := fun i hi rw st z xs he => h i hi rw st z xs (by rw [← ha i hi]; exact he)
theorem idA_slV (lo hi : Nat) (a : AV) : idA (slV lo hi a) = idA a := by cases a <;> rfl
/-- A part of a slice. -/
theorem Sl.sub (h : Sl H z a els) (hst : Cl H a) {lo hi : Int} (h0 : 0 ≤ lo) (h1 : lo ≤ hi) (h2 : hi ≤ els.length) : slC lo hi a ∧ slZ H z a ∧ Sl H z (slV lo.toNat hi.toNat a) ((els.drop lo.toNat).take (hi.toNat - lo.toNat)) := by
  cases h with
  | nil =>
    have e1 : lo = 0 := by simp at h2; omega
    have e2 : hi = 0 := by simp at h2; omega
    subst e1 e2
    exact ⟨⟨rfl, rfl⟩, trivial, by simpa [slV] using (Sl.nil : Sl H z .ns [])⟩
  | @sl id ix st rw xs els k1 k2 k3 k4 k5 =>
    have hs := hst id (by simp [idA]) rw st z xs k2
    refine ⟨⟨h0, h1, h2⟩, by simp only [slZ, k2], ?_⟩
    have hl : ((els.drop lo.toNat).take (hi.toNat - lo.toNat)).length = hi.toNat - lo.toNat := by simp; omega
    simp only [slV]
    have := Sl.sl (H := H) (z := z) (ix := ix + lo.toNat) (els := (els.drop lo.toNat).take (hi.toNat - lo.toNat)) k1 k2 (by rw [hl]; omega) (by
      rw [hl]
      conv => rhs; rw [← k4]
      rw [List.drop_take, List.take_take, List.drop_drop, Nat.min_eq_left (by omega)]) (fun e => absurd e hs)
    rw [hl] at this
    exact this
theorem Mn.sl (h : Mn H z a els) : Sl H z a els := by
  cases h with
  | nil => exact .nil
  | own h1 h2 => exact .sl h1 h2 (by simp) (by simp) (by simp)
theorem Mn.lt (h : Mn H z a els) : ∀ i, i ∈ idA a → i < H.n := h.sl.lt
theorem Mn.fr (h : Mn H z a els) (hn : H.n ≤ H'.n) (ha : ∀ i, i ∈ idA a → H'.at' i = H.at' i) : Mn H' z a els := by
  cases h with
  | nil => exact .nil
  | own h1 h2 => exact .own (Nat.lt_of_lt_of_le h1 hn) (by rw [ha _ (by simp [idA])]; exact h2)
theorem Mn.ext (h : Mn H z a els) (he : Ext H H') : Mn H' z a els := h.fr he.n fun i hi => he.at' i (h.lt i hi)
/-- A store into an element. -/
theorem Mn.st (h : Mn H z a els) {j : Int} (h0 : 0 ≤ j) (hj : j < els.length) {v : AV} {off : Nat} (hf : off + v.cells.length ≤ (els.getD j.toNat .u).cells.length) (L : List Lv) (g : Nat) :
    stC ⟨L, g, H⟩ v (faV off (iaV j.toNat a)) ∧ ∃ H', stM ⟨L, g, H⟩ v (faV off (iaV j.toNat a)) = ⟨L, g, H'⟩ ∧ Mn H' z a (els.set j.toNat (setEl (els.getD j.toNat .u) off v)) ∧ H'.n = H.n ∧ ∀ i, ¬ i ∈ idA a → H'.at' i = H.at' i := by
  cases h with
  | nil => simp at hj; omega
  | @own id st xs h1 h2 =>
    have hjn : j.toNat < els.length := by omega
    refine ⟨?_, H.set id (.arr true (if st = 0 then 0 else 2) z (els.set j.toNat (setEl (els.getD j.toNat .u) off v))), ?_, ?_, rfl, fun i hi => set_ne fun e => hi (by simp [idA, e])⟩
    · simp only [iaV, faV, stC, h2, Nat.zero_add]
      exact ⟨trivial, trivial, hjn, hf⟩
    · simp only [iaV, faV, stM, h2, Nat.zero_add]
    · have hl : (els.set j.toNat (setEl (els.getD j.toNat .u) off v)).length = els.length := by simp
      rw [← hl]
      exact .own h1 set_at
theorem setEl_one {x v : AV} (hv : v.cells = [v]) (hx : ∀ cs, x ≠ .ag cs) : setEl x 0 v = v := by
  cases x <;> first | exact absurd rfl (hx _) | simp [setEl, hv]
/-- Elements appended. -/
theorem Mn.ap (h : Mn H z a els) {y : AV} {ys : List AV} {L : List Lv} {g by' : Nat} (hy : srcV ⟨L, g, H⟩ y = ys ∧ srcC ⟨L, g, H⟩ z y) (hb : (els.length + ys.length) * by' ≤ 140737488355328) :
    apC ⟨L, g, H⟩ z by' y a ∧ ∃ a' H', apV ⟨L, g, H⟩ y a = a' ∧ apM ⟨L, g, H⟩ z y a = ⟨L, g, H'⟩ ∧ Mn H' z a' (els ++ ys) ∧ H.n ≤ H'.n ∧ (∀ i, i < H.n → ¬ i ∈ idA a → H'.at' i = H.at' i) ∧ (∀ i, i ∈ idA a' → i ∈ idA a ∨ H.n ≤ i) ∧ (∀ i, i ∈ idA a → i ∈ idA a') ∧ (Cl H a → Cl H' a') := by
  obtain ⟨hy1, hy2⟩ := hy
  cases h with
  | nil =>
    refine ⟨⟨hy2, by rw [hy1]; simpa using hb⟩, ?_⟩
    by_cases hn : ys.length = 0
    · have : ys = [] := List.eq_nil_of_length_eq_zero hn
      subst this
      exact ⟨.ns, H, by simp only [apV, hy1]; rfl, by simp only [apM, hy1]; rfl, .nil, Nat.le_refl _, fun _ _ _ => rfl, fun i hi => (by cases hi), fun i hi => (by cases hi), fun _ i hi => (by cases hi)⟩
    · refine ⟨.sl H.n 0 ys.length, H.new (.arr true 0 z ys), by simp only [apV, hy1]; rw [if_neg hn], by simp only [apM, hy1]; rw [if_neg hn], .own (by simp) new_at, by simp, fun i hi _ => new_old hi, fun i hi => .inr ?_, fun i hi => (by cases hi), fun _ i hi rw st z' xs he => ?_⟩
      · simp only [idA, List.mem_singleton] at hi; omega
      · simp only [idA, List.mem_singleton] at hi
        subst hi
        rw [new_at] at he
        cases he; decide
  | @own id st xs h1 h2 =>
    refine ⟨⟨by simp only [h2]; exact ⟨trivial, trivial, by simp⟩, hy2, by rw [hy1]; exact hb⟩, .sl id 0 (els.length + ys.length), ?_⟩
    have hl : (els ++ ys).length = els.length + ys.length := by simp
    by_cases hn : ys.length = 0
    · have : ys = [] := List.eq_nil_of_length_eq_zero hn
      subst this
      refine ⟨H, by simp only [apV, hy1], by simp only [apM, h2, hy1]; rfl, ?_, Nat.le_refl _, fun _ _ _ => rfl, fun i hi => .inl hi, fun i hi => hi, fun hc => hc⟩
      rw [← hl, List.append_nil]; exact .own h1 h2
    · refine ⟨H.set id (.arr true (if st = 2 then 2 else 1) z (els ++ ys)), by simp only [apV, hy1], by simp only [apM, h2, hy1]; rw [if_neg hn], ?_, Nat.le_refl _, fun i _ hi => set_ne fun e => hi (by simp [idA, e]), fun i hi => .inl hi, fun i hi => hi, fun hc i hi rw st' z' xs' he => ?_⟩
      · rw [← hl]; exact .own h1 set_at
      · simp only [idA, List.mem_singleton] at hi
        subst hi
        rw [set_at] at he
        have := hc i (by simp [idA]) _ _ _ _ h2
        cases he
        rw [if_neg this]; decide
end
/-- Others are as they were. -/
theorem Ext.put {H H1 H2 : AH} {l : List Nat} (h : Ext H H1) (hi : ∀ i, i ∈ l → H.n ≤ i) (hn : H1.n ≤ H2.n) (ha : ∀ i, i < H1.n → ¬ i ∈ l → H2.at' i = H1.at' i) : Ext H H2 :=
  ⟨Nat.le_trans h.n hn, fun i hi' => by rw [ha i (Nat.lt_of_lt_of_le hi' h.n) fun hm => by have := hi i hm; omega]; exact h.at' i hi'⟩

/-! Bytes. -/
theorem allU8_enc : ∀ l : List UInt8, allU8 (encB l)
  | [] => trivial
  | _ :: r => ⟨⟨_, rfl⟩, allU8_enc r⟩
theorem dec_enc : ∀ l : List UInt8, decB (encB l) = l
  | [] => rfl
  | b :: r => by
    have := dec_enc r
    simp only [encB, List.map_cons, decB] at *
    rw [this]
    simp [AV.toI]
@[simp] theorem enc_len (l : List UInt8) : (encB l).length = l.length := by simp [encB]
theorem enc_app (l m : List UInt8) : encB (l ++ m) = encB l ++ encB m := by simp [encB]
theorem enc_take (l : List UInt8) (n : Nat) : (encB l).take n = encB (l.take n) := by simp [encB, List.map_take]
theorem enc_drop (l : List UInt8) (n : Nat) : (encB l).drop n = encB (l.drop n) := by simp [encB, List.map_drop]
theorem enc_get {l : List UInt8} {i : Nat} (h : i < l.length) : (encB l).getD i .u = .i .u8 (l.getD i 0).toNat := by simp [List.getD, encB, h]
theorem enc_set {l : List UInt8} {i : Nat} {b : UInt8} : (encB l).set i (.i .u8 b.toNat) = encB (l.set i b) := by simp [encB, List.map_set]
theorem enc_rep (n : Nat) (b : UInt8) : List.replicate n (.i .u8 b.toNat) = encB (List.replicate n b) := by simp [encB]
theorem u8w (k : Nat) : IntKind.u8.wrap (k : Int) = ((UInt8.ofNat k).toNat : Int) := by
  rw [IntKind.wrap_u8]
  simp [UInt8.toNat_ofNat']
/-- Two bytes laid together. -/
theorem or_bytes (x y : UInt8) : bitw .or .i64 ((x.toNat : Int) * 256) (y.toNat : Int) = ((x.toNat * 256 + y.toNat : Nat) : Int) := by
  have hx := x.toNat_lt
  have hy := y.toNat_lt
  have e1 : ((x.toNat : Int) * 256) = ((x.toNat * 256 : Nat) : Int) := by omega
  have e2 : x.toNat * 256 ||| y.toNat = x.toNat * 256 + y.toNat := by
    have := Nat.two_pow_add_eq_or_of_lt (i := 8) (b := y.toNat) hy x.toNat
    rw [Nat.mul_comm]; exact this.symm
  unfold bitw
  simp only
  rw [e1, show IntKind.i64.bits = 64 from rfl, BitVec.ofInt_natCast, BitVec.ofInt_natCast, BitVec.toNat_or, BitVec.toNat_ofNat, BitVec.toNat_ofNat, Nat.mod_eq_of_lt (by omega), Nat.mod_eq_of_lt (by omega), e2, w64 (by omega) (by omega)]
theorem enc_inj {l m : List UInt8} (h : encB l = encB m) : l = m := by
  have := congrArg decB h
  rwa [dec_enc, dec_enc] at this
abbrev Byt (H : AH) (a : AV) (l : List UInt8) : Prop := Sl H 1 a (encB l)
abbrev Mb (H : AH) (a : AV) (l : List UInt8) : Prop := Mn H 1 a (encB l)
section
variable {H : AH} {a : AV} {l : List UInt8}
theorem Byt.len (h : Byt H a l) : lenV a = .i .i64 l.length ∧ lenC a := by
  have := Sl.len h
  rwa [enc_len] at this
theorem Byt.cbs (h : Byt H a l) : (slOk H a ∧ slZ H 1 a ∧ allU8 (slEls H a)) ∧ AV.s (decB (slEls H a)) = .s l := by
  obtain ⟨h1, h2, h3⟩ := Sl.rd h
  rw [h3, dec_enc]; exact ⟨⟨h1, h2, allU8_enc l⟩, rfl⟩
theorem Byt.ia (h : Byt H a l) {j : Int} (h0 : 0 ≤ j) (hj : j < l.length) (L : List Lv) (g : Nat) : slZ H 1 a ∧ iaC j a ∧ ldC ⟨L, g, H⟩ none (iaV j.toNat a) ∧ ldX ⟨L, g, H⟩ none (iaV j.toNat a) = .i .u8 (l.getD j.toNat 0).toNat :=
  Sl.ia1 h h0 (by rw [enc_len]; exact hj) (by rw [enc_get (by omega)]; rfl) L g
theorem Mb.st (h : Mb H a l) {j : Int} (h0 : 0 ≤ j) (hj : j < l.length) (b : UInt8) (L : List Lv) (g : Nat) :
    slZ H 1 a ∧ iaC j a ∧ stC ⟨L, g, H⟩ (.i .u8 b.toNat) (iaV j.toNat a) ∧ ∃ H', stM ⟨L, g, H⟩ (.i .u8 b.toNat) (iaV j.toNat a) = ⟨L, g, H'⟩ ∧ Mb H' a (l.set j.toNat b) ∧ H'.n = H.n ∧ ∀ i, ¬ i ∈ idA a → H'.at' i = H.at' i := by
  have hj' : j < (encB l).length := by rw [enc_len]; exact hj
  obtain ⟨h1, h2, -⟩ := (Mn.sl h).ia h0 hj'
  have hg := enc_get (l := l) (i := j.toNat) (by omega)
  obtain ⟨h3, H', h4, h5, h6⟩ := Mn.st h h0 hj' (v := .i .u8 b.toNat) (off := 0) (by rw [hg]; exact Nat.le_refl _) L g
  rw [fa0] at h3 h4
  rw [hg, setEl_one rfl (fun cs h => by cases h), enc_set] at h5
  exact ⟨h1, h2, h3, H', h4, h5, h6⟩
end
end Go.Vm
