/- The law of EdnsRecord returns true whatever its arguments, and leaves them as they were. -/
import Derived.Test.YtfamnghjibckbaaEd3
import Derived.Test.YtfamnghjibckbaaRows
import Derived.ProofKit
import Derived.JoinedCond
namespace Go.Vm
set_option linter.unusedVariables false
set_option linter.unusedSimpArgs false
theorem open_Option {P : Program} {w : World} {H : Type} {enc : TypeId × Value → H} {m e : Nat} (hf : flatTy P m e = some [.i .i64, .s]) : ∀ n vals z, DataW.trod enc P w 0 (fun _ => true) true n e vals = some z → ∃ x : Opt, preO x ∧ ∀ ρ, All2 (VA ρ) (eO.fn x) vals := by
  intro n vals z hz
  obtain ⟨us, h1, h2⟩ := flat_open hf hz
  obtain _ | ⟨u1, _ | ⟨u2, _ | ⟨u3, us⟩⟩⟩ := us
  · exact h1.elim
  · exact h1.2.elim
  · obtain ⟨⟨c, rfl, -⟩, ⟨d, rfl, hd⟩, -⟩ := h1
    exact ⟨(c, d), hd, h2⟩
  · exact h1.2.2.elim
end Go.Vm
namespace Go.Proofs.Ytfamnghjibckbaa
open Go.ChangeShapes Go.WideShapes Go.ChangeAt Go.RowKit
namespace fnExactEdnsRecord
theorem own : ownKnob Try.prog.godebug = none := by kernel_rfl
theorem laidOut : laidOutB Try.prog = true := by kernel_rfl
set_option maxRecDepth 100000 in
theorem contract (H : Type) (enc : TypeId × Value → H) (W : World) (base : Nat) (args : Array Value) (ds gs : List (DataW H)) (before : List MemPlace)
    (hval : ∀ (j : Nat) t v, Try.f4.params[j]? = some t → args[j]? = some v → Value.okWide Try.prog W .any base t v)
    (hW : DataW.Whole enc Try.prog Try.f4.params.toList Rows.fnExactEdnsRecordSpec.vars false W args.toList ds gs before) :
    Calls Try.prog 4 args W fun e W' => ∃ v, e = .returned v ∧ Rows.fnExactEdnsRecordSpec.post enc Try.prog Try.f4 false true false false W args v W' := by
  have hW' := hW
  obtain ⟨p, q, hA0, hV, rfl, hfz, hnd⟩ := hW
  have hA : DataW.TrodAll enc Try.prog W 0 (fun _ => true) true Try.f4.params.toList args.toList ds p := hA0
  rw [Try.params4] at hA hval
  obtain ⟨v0, vs0, d0, ds0, p0, q0, hargs, rfl, rfl, h0, hr0⟩ := trodAll_cons hA
  obtain ⟨v1, vs1, d1, ds1, p1, q1, rfl, rfl, rfl, h1, hr1⟩ := trodAll_cons hr0
  obtain ⟨v2, vs2, d2, ds2, p2, q2, rfl, rfl, rfl, h2, hr2⟩ := trodAll_cons hr1
  obtain ⟨v3, vs3, d3, ds3, p3, q3, rfl, rfl, rfl, ⟨n3, h3⟩, hr3⟩ := trodAll_cons hr2
  obtain ⟨rfl, rfl, rfl⟩ := trodAll_nil hr3
  obtain ⟨rfl⟩ : args = #[v0, v1, v2, v3] := by cases args; simp_all
  obtain ⟨rfl, rfl⟩ := trodVars_none hV
  obtain ⟨m0, rfl⟩ := okWide_int Try.underlying2 (hval 0 2 v0 rfl rfl)
  obtain ⟨m1, rfl⟩ := okWide_int Try.underlying2 (hval 1 2 v1 rfl rfl)
  obtain ⟨m2, rfl⟩ := okWide_int Try.underlying2 (hval 2 2 v2 rfl rfl)
  have hv3 := hval 3 31 v3 rfl rfl
  obtain ⟨a3, l3, c3, rfl⟩ := okWide_slice Try.underlying31 hv3
  simp only [Value.okWide, Try.underlying31] at hv3
  obtain ⟨ρ, Hh, a, os, F, le, e1, r1, b1, b2, b3⟩ := Vm.Fst.first.slice (P := Try.prog) (E := Vm.eO) (pre := Vm.preO) Try.underlying31 (by kernel_rfl) (by decide) (Vm.open_Option (m := 4) (by kernel_rfl)) hv3 h3
  obtain ⟨H', hlaw⟩ := Vm.law_EdnsRecord (size := m0) (code := m1) (flags := m2) b1 b2 b3
  have ha : Vm.V1 ρ a (.slice a3 l3 c3) := Vm.V1.of (Vm.VA.of r1)
  have hcall := (Vm.tabK_ok Vm.fsE_ok Vm.mixed 3 _ _ _ _ _ hlaw).2 ρ W #[.int .i64 m0, .int .i64 m1, .int .i64 m2, .slice a3 l3 c3] F.heap F.glob ⟨(rfl : Value.int .i64 m0 = _), (rfl : Value.int .i64 m1 = _), (rfl : Value.int .i64 m2 = _), ha, trivial⟩
  refine hcall.mono fun e W' hR => ?_
  cases e with
  | panicked _ => exact hR.elim
  | outgrown => exact hR.elim
  | returned r =>
    obtain ⟨ρ', hs, hv, -⟩ := hR
    have hr : r = .bool true := hv
    subst hr
    have hb := hs.below F
    have hlt := hW'.lt
    refine ⟨_, rfl, Vm.post_below (pv := []) hW' (fun _ _ _ => trodAll_mk1 (shut_bool Try.underlying4 _)) (fun sp hsp => ?_) (fun _ _ => rfl) rfl hb (ok_one (by kernel_rfl) rfl (okWide_bool_mk Try.underlying4 _))⟩
    refine Vm.trodAll_stays laidOut hb (fun t ht => ?_) hA0 (fun x hx => hlt x (by simpa using hx)) (fun x hx => hsp x (by simpa using hx))
    rw [Try.params4] at ht
    have : t = 2 ∨ t = 31 := by simp at ht; omega
    rcases this with rfl | rfl
    · exact ⟨by kernel_rfl, of_decide_eq_true (by kernel_rfl)⟩
    · exact ⟨by kernel_rfl, of_decide_eq_true (by kernel_rfl)⟩
set_option maxRecDepth 100000 in
theorem lifted (os : Os) (started : os.Started) (H : Type) (enc : TypeId × Value → H) :
    ReturnsInHanded {} Try.checked os 4 .any (Rows.fnExactEdnsRecordSpec.pre6 enc Try.prog Try.f4 Rows.fnExactEdnsRecordRow.domain false) (Rows.fnExactEdnsRecordSpec.post enc Try.prog Try.f4 false true false false) := by
  refine returnsInHanded_of_change (C := Try.checked) own started (by kernel_rfl) Try.func4
    (ChangeSpec.witness6 (enc := enc) (C := Try.checked) false ⟨#[], #[.int .i64 0, .int .i64 0, .int .i64 0, .slice none 0 0], []⟩ 8 (by kernel_rfl) (by kernel_rfl) (by kernel_rfl) (by kernel_rfl)) ?_
  intro W base args ds gs before hval hW _ _
  exact contract H enc W base args ds gs before hval hW
theorem proved : Rows.FnExactEdnsRecordSaid :=
  OpenClaim.holds_of_wide 4 Try.f4 rfl rfl rfl rfl rfl rfl rfl ⟨rfl, rfl, rfl, rfl, rfl⟩ rfl rfl rfl rfl rfl (by kernel_rfl) Try.func4 (by kernel_rfl)
    (of_decide_eq_true (by kernel_rfl)) (by unfold Func.isWrapper; first | (rw [if_pos (by decide +kernel)]; kernel_rfl) | (rw [if_neg (by decide +kernel)]; exact ⟨rfl, rfl⟩))
    (fun os started H enc _ => lifted os started H enc)
end fnExactEdnsRecord
end Go.Proofs.Ytfamnghjibckbaa
