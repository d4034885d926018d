/- The law of EdnsRecord returns true: the table of its functions. -/
import Derived.Test.YtfamnghjibckbaaEd2
import Derived.Test.YtfamnghjibckbaaVm23
namespace Go.Vm
set_option linter.unusedVariables false
set_option linter.unusedSimpArgs false
def fsE : List (Nat × Fn) := [(n_laws_szOption, c_laws_szOption), (n_laws_szOptionS, c_laws_szOptionS), (n_spec_l04In, c_spec_l04In), (n_spec_l02Put, c_spec_l02Put), (n_spec_EdnsRecord, c_spec_EdnsRecord), (n_laws_toOption, c_laws_toOption), (n_laws_toOptionS, c_laws_toOptionS),
  (n_impl_within, c_impl_within), (n_impl_p16, c_impl_p16), (n_impl_EdnsRecord, c_impl_EdnsRecord), (n_laws_eqRR, c_laws_eqRR), (n_laws_eqOption, c_laws_eqOption), (n_laws_eqOptionS, c_laws_eqOptionS), (n_laws_FnExactEdnsRecord, c_laws_FnExactEdnsRecord)]
theorem fsE_ok : AllK Go.Proofs.Try.prog fsE := ⟨k_laws_szOption, k_laws_szOptionS, k_spec_l04In, k_spec_l02Put, k_spec_EdnsRecord, k_laws_toOption, k_laws_toOptionS, k_impl_within, k_impl_p16, k_impl_EdnsRecord, k_laws_eqRR, k_laws_eqOption, k_laws_eqOptionS, k_laws_FnExactEdnsRecord, trivial⟩
section
variable (k : Nat)
theorem q_szOption : T_sz (tabK fsE (k + 1)) n_laws_szOption eO wO preO := fun o left H h hl hd => tabK_eq (F := c_laws_szOption) rfl (r_szOption h hl hd)
theorem q_toOption : T_to (tabK fsE (k + 1)) n_laws_toOption eO := fun o H => tabK_eq (F := c_laws_toOption) rfl r_toOption
theorem q_eqOption : T_eq (tabK fsE (k + 1)) n_laws_eqOption eO := fun o H => tabK_eq (F := c_laws_eqOption) rfl r_eqOption
theorem q_eqRR : T_eq (tabK fsE (k + 1)) n_laws_eqRR eR := fun o H => tabK_eq (F := c_laws_eqRR) rfl r_eqRR
theorem q_l04In : T_in (tabK fsE (k + 1)) n_spec_l04In := fun x m H => tabK_eq (F := c_spec_l04In) rfl r_l04In
theorem q_within : T_within (tabK fsE (k + 1)) n_impl_within := fun x lo m H => tabK_eq (F := c_impl_within) rfl r_within
theorem q_p16 : T_p16 (tabK fsE (k + 1)) n_impl_p16 := fun n H hn => by
  obtain ⟨v, H', h1, h2, rfl⟩ := tabK_run (n := n_impl_p16) (F := c_impl_p16) (l := fsE) rfl (r_p16 (C := tabK fsE k) (H := H) hn)
  exact ⟨H', h1, h2⟩
theorem q_l02Put : T_put2 (tabK fsE (k + 1)) n_spec_l02Put := fun n H hn => by
  obtain ⟨v, H', h1, h2, rfl⟩ := tabK_run (n := n_spec_l02Put) (F := c_spec_l02Put) (l := fsE) rfl (r_l02Put (C := tabK fsE k) (H := H) (n := n) (k := 2) (by omega) (by decide))
  exact ⟨H', h1.trans (by simp [beK, be16]), h2⟩
theorem q_szOptionS : T_szS (tabK fsE (k + 2)) n_laws_szOptionS eO wO preO := fun a xs left H h h0 hl hn hd => tabK_eq (F := c_laws_szOptionS) rfl (r_szS rfl (q_szOption k) h h0 hl hn hd)
theorem q_toOptionS : T_toS (tabK fsE (k + 2)) n_laws_toOptionS eO := fun a xs H h hn => tabK_run (F := c_laws_toOptionS) rfl (r_toS rfl rfl (q_toOption k) h (by decide) hn)
theorem q_eqOptionS : T_eqS (tabK fsE (k + 2)) n_laws_eqOptionS eO := fun a b xs H h h' hn => tabK_eq (F := c_laws_eqOptionS) rfl (r_eqS rfl (q_eqOption k) h h' hn)
theorem q_specEdns : T_edns (tabK fsE (k + 2)) n_spec_EdnsRecord := fun a os size code flags H h hn => tabK_run (F := c_spec_EdnsRecord) rfl (r_spec_EdnsRecord (q_l04In k) (q_l02Put k) h hn)
theorem q_implEdns : T_edns (tabK fsE (k + 2)) n_impl_EdnsRecord := fun a os size code flags H h hn => tabK_run (F := c_impl_EdnsRecord) rfl (r_impl_EdnsRecord (q_within k) (q_p16 k) h hn)
theorem law_EdnsRecord {a : AV} {os : List Opt} {size code flags : Int} {H : AH} (h : Sx H eO a os) (hn : os.length ≤ 9223372036854775807) (hd : ∀ o, o ∈ os → preO o) :
    ∃ H', tabK fsE 3 n_laws_FnExactEdnsRecord [.i .i64 size, .i .i64 code, .i .i64 flags, a] H = some (.b true, H') := by
  obtain ⟨v, H', h1, rfl⟩ := tabK_run (n := n_laws_FnExactEdnsRecord) (F := c_laws_FnExactEdnsRecord) (l := fsE) rfl (r_law_EdnsRecord (C := tabK fsE 2) (q_szOptionS 0) (q_toOptionS 0) (q_eqOptionS 0) (q_eqRR 1) (q_specEdns 0) (q_implEdns 0) h hn hd)
  exact ⟨H', h1⟩
end
end Go.Vm
