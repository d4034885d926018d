/- The law of ReadEdns returns true whatever its arguments, and leaves them as they were. -/
import Derived.Test.YtfamnghjibckbaaRe6
import Derived.Test.YtfamnghjibckbaaMs0
import Derived.Test.YtfamnghjibckbaaRows
import Derived.ProofKit
import Derived.JoinedCond
namespace Go.Proofs.Ytfamnghjibckbaa
open Go.ChangeShapes Go.WideShapes Go.ChangeAt Go.RowKit
namespace fnExactReadEdns
theorem own : ownKnob Try.prog.godebug = none := by kernel_rfl
theorem laidOut : laidOutB Try.prog = true := by kernel_rfl
theorem mty : Vm.MsgTy Try.prog 47 43 44 45 93 95 := ⟨⟨_, _, _, _, _, Try.underlying47, ⟨rfl, rfl⟩, ⟨rfl, rfl⟩, ⟨rfl, rfl⟩, ⟨rfl, rfl⟩, ⟨rfl, rfl⟩⟩, by kernel_rfl, by kernel_rfl, by kernel_rfl, by kernel_rfl, by kernel_rfl, Try.underlying44, Try.underlying45, by kernel_rfl, by kernel_rfl, by kernel_rfl, by kernel_rfl,
  ⟨[2, 4, 2, 4, 4, 4, 4, 4, 4, 4, 2, 44, 45, 45, 45], by kernel_rfl, rfl, rfl, rfl, rfl, rfl⟩⟩
set_option maxRecDepth 100000 in
theorem contract (H : Type) (enc : TypeId × Value → H) (W : World) (base : Nat) (args : Array Value) (ds gs : List (DataW H)) (before : List MemPlace)
    (hval : ∀ (j : Nat) t v, Try.f5.params[j]? = some t → args[j]? = some v → Value.okWide Try.prog W .any base t v)
    (hW : DataW.Whole enc Try.prog Try.f5.params.toList Rows.fnExactReadEdnsSpec.vars false W args.toList ds gs before) :
    Calls Try.prog 5 args W fun e W' => ∃ v, e = .returned v ∧ Rows.fnExactReadEdnsSpec.post enc Try.prog Try.f5 false true false false W args v W' := by
  have hW' := hW
  obtain ⟨p, q, hA0, hV, rfl, hfz, hnd⟩ := hW
  have hA : DataW.TrodAll enc Try.prog W 0 (fun _ => true) true Try.f5.params.toList args.toList ds p := hA0
  rw [Try.params5] at hA hval
  obtain ⟨v0, vs0, d0, ds0, p0, q0, hargs, rfl, rfl, h0, hr0⟩ := trodAll_cons hA
  obtain ⟨rfl, rfl, rfl⟩ := trodAll_nil hr0
  obtain ⟨rfl⟩ : args = #[v0] := by cases args; simp_all
  obtain ⟨rfl, rfl⟩ := trodVars_none hV
  obtain ⟨ρ, Hh, mq, ma, mb, mc, m, F, le, e1, r1, b1, b2⟩ := Vm.Fst.first.msg mty (hval 0 47 v0 rfl rfl) h0
  obtain ⟨H', hlaw⟩ := Vm.Rq.law b1 b2
  have hcall := (Vm.tabK_ok Vm.fsR_ok Vm.mixed 4 _ _ _ _ _ hlaw).2 ρ W #[v0] F.heap F.glob ⟨r1, trivial⟩
  refine hcall.mono fun e W' hR => ?_
  cases e with
  | panicked _ => exact hR.elim
  | outgrown => exact hR.elim
  | returned r =>
    obtain ⟨ρ', hs, hv, -⟩ := hR
    have hr : r = .bool true := hv
    subst hr
    have hb := hs.below F
    have hlt := hW'.lt
    refine ⟨_, rfl, Vm.post_below (pv := []) hW' (fun _ _ _ => trodAll_mk1 (shut_bool Try.underlying4 _)) (fun sp hsp => ?_) (fun _ _ => rfl) rfl hb (ok_one (by kernel_rfl) rfl (okWide_bool_mk Try.underlying4 _))⟩
    refine Vm.trodAll_stays laidOut hb (fun t ht => ?_) hA0 (fun x hx => hlt x (by simpa using hx)) (fun x hx => hsp x (by simpa using hx))
    rw [Try.params5] at ht
    have : t = 47 := by simpa using ht
    subst this
    exact ⟨by kernel_rfl, of_decide_eq_true (by kernel_rfl)⟩
set_option maxRecDepth 100000 in
theorem lifted (os : Os) (started : os.Started) (H : Type) (enc : TypeId × Value → H) :
    ReturnsInHanded {} Try.checked os 5 .any (Rows.fnExactReadEdnsSpec.pre6 enc Try.prog Try.f5 Rows.fnExactReadEdnsRow.domain false) (Rows.fnExactReadEdnsSpec.post enc Try.prog Try.f5 false true false false) := by
  refine returnsInHanded_of_change (C := Try.checked) own started (by kernel_rfl) Try.func5
    (ChangeSpec.witness6 (enc := enc) (C := Try.checked) false ⟨#[], #[.agg #[.int .i64 0, .bool false, .int .i64 0, .bool false, .bool false, .bool false, .bool false, .bool false, .bool false, .bool false, .int .i64 0, .slice none 0 0, .slice none 0 0, .slice none 0 0, .slice none 0 0]], []⟩ 8 (by kernel_rfl) (by kernel_rfl) (by kernel_rfl) (by kernel_rfl)) ?_
  intro W base args ds gs before hval hW _ _
  exact contract H enc W base args ds gs before hval hW
theorem proved : Rows.FnExactReadEdnsSaid :=
  OpenClaim.holds_of_wide 5 Try.f5 rfl rfl rfl rfl rfl rfl rfl ⟨rfl, rfl, rfl, rfl, rfl⟩ rfl rfl rfl rfl rfl (by kernel_rfl) Try.func5 (by kernel_rfl)
    (of_decide_eq_true (by kernel_rfl)) (by unfold Func.isWrapper; first | (rw [if_pos (by decide +kernel)]; kernel_rfl) | (rw [if_neg (by decide +kernel)]; exact ⟨rfl, rfl⟩))
    (fun os started H enc _ => lifted os started H enc)
end fnExactReadEdns
end Go.Proofs.Ytfamnghjibckbaa
