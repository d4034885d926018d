/- The law of CutFrames returns true whatever its arguments, and leaves them as they were. -/
import Derived.Test.YtfamnghjibckbaaCu4
namespace Go.Proofs.Ytfamnghjibckbaa
open Go.ChangeShapes Go.WideShapes Go.ChangeAt Go.RowKit
namespace fnExactCutFrames
theorem own : ownKnob Try.prog.godebug = none := by kernel_rfl
theorem laidOut : laidOutB Try.prog = true := by kernel_rfl
set_option maxRecDepth 100000 in
theorem contract (H : Type) (enc : TypeId × Value → H) (W : World) (base : Nat) (args : Array Value) (ds gs : List (DataW H)) (before : List MemPlace)
    (hval : ∀ (j : Nat) t v, Try.f3.params[j]? = some t → args[j]? = some v → Value.okWide Try.prog W .any base t v)
    (hW : DataW.Whole enc Try.prog Try.f3.params.toList Rows.fnExactCutFramesSpec.vars false W args.toList ds gs before) :
    Calls Try.prog 3 args W fun e W' => ∃ v, e = .returned v ∧ Rows.fnExactCutFramesSpec.post enc Try.prog Try.f3 false true false false W args v W' := by
  have hW' := hW
  obtain ⟨p, q, hA0, hV, rfl, hfz, hnd⟩ := hW
  have hA : DataW.TrodAll enc Try.prog W 0 (fun _ => true) true Try.f3.params.toList args.toList ds p := hA0
  rw [Try.params3] at hA hval
  obtain ⟨v0, v1, d0, d1, p0, p1, rfl, rfl, rfl, h0, h1⟩ := trodAll_two hA
  obtain ⟨rfl, rfl⟩ := trodVars_none hV
  obtain ⟨ρ1, H1, a, la, F1, le1, e1, r1, b1⟩ := Vm.Fst.first.bytes (P := Try.prog) Try.underlying22 Try.underlying5 (by kernel_rfl) (hval 0 22 v0 rfl rfl) h0
  obtain ⟨ρ2, H2, b, lb, F2, le2, e2, r2, b2⟩ := F1.bytes Try.underlying22 Try.underlying5 (by kernel_rfl) (hval 1 22 v1 rfl rfl) h1
  obtain ⟨H', hlaw⟩ := Vm.law_CutFrames (b1.ext e2) b2
  have hcall := (Vm.tb_ok _ _ _ _ _ hlaw).2 ρ2 W #[v0, v1] F2.heap F2.glob ⟨r1.mono le2, r2, trivial⟩
  refine hcall.mono fun e W' hR => ?_
  cases e with
  | panicked _ => exact hR.elim
  | outgrown => exact hR.elim
  | returned r =>
    obtain ⟨ρ', hs, hv, -⟩ := hR
    have hr : r = .bool true := hv
    subst hr
    have hb := hs.below F2
    have hlt : ∀ x, x ∈ p0 ++ p1 ++ [] → x.block < W.heap.size := fun x hx => hW'.lt x hx
    refine ⟨_, rfl, Vm.post_below (pa := p0 ++ p1) (pv := []) hW' (fun _ _ _ => trodAll_mk1 (shut_bool Try.underlying4 _)) (fun sp hsp => ?_) (fun _ _ => rfl) rfl hb (ok_one (by kernel_rfl) rfl (okWide_bool_mk Try.underlying4 _))⟩
    refine Vm.trodAll_stays laidOut hb (fun t ht => ?_) hA0 (fun x hx => hlt x (by simpa using hx)) (fun x hx => hsp x (by simpa using hx))
    rw [Try.params3] at ht
    have : t = 22 := by simpa using ht
    subst this
    exact ⟨by kernel_rfl, of_decide_eq_true (by kernel_rfl)⟩
set_option maxRecDepth 100000 in
theorem lifted (os : Os) (started : os.Started) (H : Type) (enc : TypeId × Value → H) :
    ReturnsInHanded {} Try.checked os 3 .any (Rows.fnExactCutFramesSpec.pre6 enc Try.prog Try.f3 Rows.fnExactCutFramesRow.domain false) (Rows.fnExactCutFramesSpec.post enc Try.prog Try.f3 false true false false) := by
  refine returnsInHanded_of_change (C := Try.checked) own started (by kernel_rfl) Try.func3
    (ChangeSpec.witness6 (enc := enc) (C := Try.checked) false ⟨#[], #[.slice none 0 0, .slice none 0 0], []⟩ 8 (by kernel_rfl) (by kernel_rfl) (by kernel_rfl) (by kernel_rfl)) ?_
  intro W base args ds gs before hval hW _ _
  exact contract H enc W base args ds gs before hval hW
theorem proved : Rows.FnExactCutFramesSaid :=
  OpenClaim.holds_of_wide 3 Try.f3 rfl rfl rfl rfl rfl rfl rfl ⟨rfl, rfl, rfl, rfl, rfl⟩ rfl rfl rfl rfl rfl (by kernel_rfl) Try.func3 (by kernel_rfl)
    (of_decide_eq_true (by kernel_rfl)) (by unfold Func.isWrapper; first | (rw [if_pos (by decide +kernel)]; kernel_rfl) | (rw [if_neg (by decide +kernel)]; exact ⟨rfl, rfl⟩))
    (fun os started H enc _ => lifted os started H enc)
end fnExactCutFrames
end Go.Proofs.Ytfamnghjibckbaa
