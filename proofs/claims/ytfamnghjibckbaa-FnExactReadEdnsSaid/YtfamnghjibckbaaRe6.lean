/- The law of ReadEdns returns true: the table of its functions. -/
import Derived.Test.YtfamnghjibckbaaRe5
import Derived.Test.YtfamnghjibckbaaVm23
namespace Go.Vm
set_option linter.unusedVariables false
set_option linter.unusedSimpArgs false
def fsR : List (Nat × Fn) := [(n_laws_FnExactReadEdns, c_laws_FnExactReadEdns), (n_laws_szMessage, c_laws_szMessage), (n_spec_ReadEdns, c_spec_ReadEdns), (n_laws_toMessage, c_laws_toMessage), (n_impl_ReadEdns, c_impl_ReadEdns), (n_laws_eqEdns, c_laws_eqEdns), (n_laws_eqMessage, c_laws_eqMessage), (n_laws_markMessage, c_laws_markMessage), (n_laws_markEdns, c_laws_markEdns), (n_laws_heldEdns, c_laws_heldEdns), (n_laws_szQuestionS, c_laws_szQuestionS), (n_laws_szRRS, c_laws_szRRS), (n_spec_l13Count, c_spec_l13Count), (n_spec_l13Options, c_spec_l13Options), (n_laws_toHead, c_laws_toHead), (n_laws_toQuestionS, c_laws_toQuestionS), (n_laws_toRRS, c_laws_toRRS), (n_impl_u16, c_impl_u16), (n_laws_eqHead, c_laws_eqHead), (n_laws_eqQuestionS, c_laws_eqQuestionS), (n_laws_eqRRS, c_laws_eqRRS), (n_laws_markQuestionS, c_laws_markQuestionS), (n_laws_markRRS, c_laws_markRRS), (n_laws_markOptionS, c_laws_markOptionS), (n_laws_heldOptionS, c_laws_heldOptionS), (n_laws_szQuestion, c_laws_szQuestion), (n_laws_szRR, c_laws_szRR), (n_laws_toQuestion, c_laws_toQuestion), (n_laws_toRR, c_laws_toRR), (n_laws_eqQuestion, c_laws_eqQuestion), (n_laws_markText, c_laws_markText), (n_laws_eqRR, c_laws_eqRR), (n_laws_eqOption, c_laws_eqOption), (n_laws_eqOptionS, c_laws_eqOptionS), (n_spec_l02Num, c_spec_l02Num)]
theorem fsR_ok : AllK Go.Proofs.Try.prog fsR := ⟨k_laws_FnExactReadEdns, k_laws_szMessage, k_spec_ReadEdns, k_laws_toMessage, k_impl_ReadEdns, k_laws_eqEdns, k_laws_eqMessage, k_laws_markMessage, k_laws_markEdns, k_laws_heldEdns, k_laws_szQuestionS, k_laws_szRRS, k_spec_l13Count, k_spec_l13Options, k_laws_toHead, k_laws_toQuestionS, k_laws_toRRS, k_impl_u16, k_laws_eqHead, k_laws_eqQuestionS, k_laws_eqRRS, k_laws_markQuestionS, k_laws_markRRS, k_laws_markOptionS, k_laws_heldOptionS, k_laws_szQuestion, k_laws_szRR, k_laws_toQuestion, k_laws_toRR, k_laws_eqQuestion, k_laws_markText, k_laws_eqRR, k_laws_eqOption, k_laws_eqOptionS, k_spec_l02Num, trivial⟩
namespace Rq
section
variable (k : Nat)
theorem q_l02Num : T_l02Num (tabK fsR (k + 1)) n_spec_l02Num := fun l H hl => by
  obtain ⟨v, H', h1, rfl, rfl⟩ := tabK_run (n := n_spec_l02Num) (F := c_spec_l02Num) (l := fsR) rfl (r_l02Num (C := tabK fsR k) (H := H) hl)
  exact h1
theorem q_szQuestion : T_sz (tabK fsR (k + 1)) n_laws_szQuestion eQ w_Question pre_Question := fun x left H h hl hd => tabK_eq (F := c_laws_szQuestion) rfl (r_szQuestion h hl hd)
theorem q_toQuestion : T_to (tabK fsR (k + 1)) n_laws_toQuestion eQ := fun x H => tabK_eq (F := c_laws_toQuestion) rfl r_toQuestion
theorem q_eqQuestion : T_eq (tabK fsR (k + 1)) n_laws_eqQuestion eQ := fun x H => tabK_eq (F := c_laws_eqQuestion) rfl r_eqQuestion
theorem q_szQuestionS : T_szS (tabK fsR (k + 2)) n_laws_szQuestionS eQ w_Question pre_Question := fun a xs left H h h0 hl hn hd => tabK_eq (F := c_laws_szQuestionS) rfl (r_szS rfl (q_szQuestion k) h h0 hl hn hd)
theorem q_toQuestionS : T_toS (tabK fsR (k + 2)) n_laws_toQuestionS eQ := fun a xs H h hn => tabK_run (F := c_laws_toQuestionS) rfl (r_toS rfl rfl (q_toQuestion k) h (by decide) hn)
theorem q_eqQuestionS : T_eqS (tabK fsR (k + 2)) n_laws_eqQuestionS eQ := fun a b xs H h h' hn => tabK_eq (F := c_laws_eqQuestionS) rfl (r_eqS rfl (q_eqQuestion k) h h' hn)
theorem q_szRR : T_sz (tabK fsR (k + 1)) n_laws_szRR eR w_RR pre_RR := fun x left H h hl hd => tabK_eq (F := c_laws_szRR) rfl (r_szRR h hl hd)
theorem q_toRR : T_to (tabK fsR (k + 1)) n_laws_toRR eR := fun x H => tabK_eq (F := c_laws_toRR) rfl r_toRR
theorem q_eqRR : T_eq (tabK fsR (k + 1)) n_laws_eqRR eR := fun x H => tabK_eq (F := c_laws_eqRR) rfl r_eqRR
theorem q_szRRS : T_szS (tabK fsR (k + 2)) n_laws_szRRS eR w_RR pre_RR := fun a xs left H h h0 hl hn hd => tabK_eq (F := c_laws_szRRS) rfl (r_szS rfl (q_szRR k) h h0 hl hn hd)
theorem q_toRRS : T_toS (tabK fsR (k + 2)) n_laws_toRRS eR := fun a xs H h hn => tabK_run (F := c_laws_toRRS) rfl (r_toS rfl rfl (q_toRR k) h (by decide) hn)
theorem q_eqRRS : T_eqS (tabK fsR (k + 2)) n_laws_eqRRS eR := fun a b xs H h h' hn => tabK_eq (F := c_laws_eqRRS) rfl (r_eqS rfl (q_eqRR k) h h' hn)
theorem q_eqOption : T_eq (tabK fsR (k + 1)) n_laws_eqOption eO := fun x H => tabK_eq (F := c_laws_eqOption) rfl r_eqOption
theorem q_eqOptionS : T_eqS (tabK fsR (k + 2)) n_laws_eqOptionS eO := fun a b xs H h h' hn => tabK_eq (F := c_laws_eqOptionS) rfl (r_eqS rfl (q_eqOption k) h h' hn)
theorem q_toHead : T_to (tabK fsR (k + 1)) n_laws_toHead eH := fun x H => tabK_eq (F := c_laws_toHead) rfl r_toHead
theorem q_eqHead : T_eq (tabK fsR (k + 1)) n_laws_eqHead eH := fun x H => tabK_eq (F := c_laws_eqHead) rfl r_eqHead
theorem q_markText : T_mt (tabK fsR (k + 1)) n_laws_markText := fun j H hj => by
  obtain ⟨v, H', h1, rfl, h2⟩ := tabK_run (n := n_laws_markText) (F := c_laws_markText) (l := fsR) rfl (r_markText (C := tabK fsR k) (H := H) hj)
  exact ⟨H', h1, h2⟩
theorem q_markQuestionS : T_markS (tabK fsR (k + 2)) n_laws_markQuestionS eQ mk_Question 3 := fun a xs j H h hb => tabK_run (F := c_laws_markQuestionS) rfl (r_markQuestionS (q_markText k) h hb)
theorem q_markRRS : T_markS (tabK fsR (k + 2)) n_laws_markRRS eR mk_RR 5 := fun a xs j H h hb => tabK_run (F := c_laws_markRRS) rfl (r_markRRS (q_markText k) h hb)
theorem q_markOptionS : T_markS (tabK fsR (k + 2)) n_laws_markOptionS eO mk_Option 2 := fun a xs j H h hb => tabK_run (F := c_laws_markOptionS) rfl (r_markOptionS (q_markText k) h hb)
theorem q_heldOptionS : T_heldS (tabK fsR (k + 2)) n_laws_heldOptionS eO mk_Option 2 := fun a j c H h hb => tabK_run (F := c_laws_heldOptionS) rfl (r_heldOptionS (q_markText k) h hb)
theorem q_szMessage : T_szMessage (tabK fsR (k + 3)) n_laws_szMessage := fun q a b c m left H h hp h0 hl => tabK_eq (F := c_laws_szMessage) rfl (r_szMessage (q_szQuestionS k) (q_szRRS k) h hp h0 hl)
theorem q_toMessage : T_toMessage (tabK fsR (k + 3)) n_laws_toMessage := fun q a b c m H h hs => tabK_run (F := c_laws_toMessage) rfl (r_toMessage (q_toHead (k + 1)) (q_toQuestionS k) (q_toRRS k) h hs)
theorem q_eqMessage : T_eqMessage (tabK fsR (k + 3)) n_laws_eqMessage := fun q a b c q' a' b' c' m H h h' hs => tabK_eq (F := c_laws_eqMessage) rfl (r_eqMessage (q_eqHead (k + 1)) (q_eqQuestionS k) (q_eqRRS k) h h' hs)
theorem q_markMessage : T_markMessage (tabK fsR (k + 3)) n_laws_markMessage := fun q a b c m j n0 H h hs => tabK_run (F := c_laws_markMessage) rfl (r_markMessage (q_markQuestionS k) (q_markRRS k) h hs)
theorem q_eqEdns : T_eqEdns (tabK fsR (k + 3)) n_laws_eqEdns := fun e a b H h h' hn => tabK_eq (F := c_laws_eqEdns) rfl (r_eqEdns (q_eqOptionS k) h h' hn)
theorem q_markEdns : T_markEdns (tabK fsR (k + 3)) n_laws_markEdns := fun e a j H h hn => tabK_run (F := c_laws_markEdns) rfl (r_markEdns (q_markOptionS k) h hn)
theorem q_heldEdns : T_heldEdns (tabK fsR (k + 3)) n_laws_heldEdns := fun e a j c H h hn => tabK_run (F := c_laws_heldEdns) rfl (r_heldEdns (q_heldOptionS k) h hn)
theorem q_l13Count : T_l13Count (tabK fsR (k + 1)) n_spec_l13Count := fun a xs H h hn => tabK_eq (F := c_spec_l13Count) rfl (r_l13Count h hn)
theorem q_l13Options : T_l13Options (tabK fsR (k + 2)) n_spec_l13Options := fun d H hd => tabK_run (F := c_spec_l13Options) rfl (r_l13Options (q_l02Num k) hd)
theorem q_u16 : T_u16 (tabK fsR (k + 1)) n_impl_u16 := fun d H hd => tabK_eq (F := c_impl_u16) rfl (r_u16 hd)
theorem q_specReadEdns : T_ReadEdns (tabK fsR (k + 3)) n_spec_ReadEdns := fun q a b c m H h hs => tabK_run (F := c_spec_ReadEdns) rfl (r_spec_ReadEdns (q_l13Count (k + 1)) (q_l13Options k) h hs)
theorem q_implReadEdns : T_ReadEdns (tabK fsR (k + 3)) n_impl_ReadEdns := fun q a b c m H h hs => tabK_run (F := c_impl_ReadEdns) rfl (r_impl_ReadEdns (q_u16 (k + 1)) h hs)
theorem law {q a b c : AV} {m : Msg} {H : AH} (h : MsgS H q a b c m) (hp : preM m) : ∃ H', tabK fsR 4 n_laws_FnExactReadEdns [mV m.h q a b c] H = some (.b true, H') := by
  obtain ⟨v, H', h1, rfl⟩ := tabK_run (n := n_laws_FnExactReadEdns) (F := c_laws_FnExactReadEdns) (l := fsR) rfl (r_law_ReadEdns (C := tabK fsR 3) (q_szMessage 0) (q_toMessage 0) (q_eqEdns 0) (q_eqMessage 0) (q_markMessage 0) (q_markEdns 0) (q_heldEdns 0) (q_specReadEdns 0) (q_implReadEdns 0) h hp)
  exact ⟨H', h1⟩
end
end Rq
end Go.Vm
