/- The law of CutFrames holds: the table of its functions, and the row. -/
import Derived.Test.YtfamnghjibckbaaCu3
import Derived.Test.YtfamnghjibckbaaVm21
import Derived.Test.YtfamnghjibckbaaRows
import Derived.ProofKit
import Derived.JoinedCond
namespace Go.Vm
set_option linter.unusedVariables false
set_option linter.unusedSimpArgs false
noncomputable section
def tb0 : Tab := fun _ _ _ => none
def tb1 : Tab := ext tb0 n_laws_toByteS (ent tb0 c_laws_toByteS)
def tb2 : Tab := ext tb1 n_laws_eqByteS (ent tb1 c_laws_eqByteS)
def tb3 : Tab := ext tb2 n_laws_eqByteSS (ent tb2 c_laws_eqByteSS)
def tb4 : Tab := ext tb3 n_laws_markByteS (ent tb3 c_laws_markByteS)
def tb5 : Tab := ext tb4 n_laws_markByteSS (ent tb4 c_laws_markByteSS)
def tb6 : Tab := ext tb5 n_laws_heldByteS (ent tb5 c_laws_heldByteS)
def tb7 : Tab := ext tb6 n_laws_heldByteSS (ent tb6 c_laws_heldByteSS)
def tb8 : Tab := ext tb7 n_spec_l02Num (ent tb7 c_spec_l02Num)
def tb9 : Tab := ext tb8 n_spec_CutFrames (ent tb8 c_spec_CutFrames)
def tb10 : Tab := ext tb9 n_impl_CutFrames (ent tb9 c_impl_CutFrames)
def tb11 : Tab := ext tb10 n_laws_FnExactCutFrames (ent tb10 c_laws_FnExactCutFrames)
end
theorem ext_fn {C : Tab} {f g : Nat} {m : List AV → AH → Option (AV × AH)} (h : g ≠ f) : ext C f m g = C g := by funext vs H; exact ext_old h
theorem tb_ok : TabOK Go.Proofs.Try.prog tb11 :=
  ent_ok (ent_ok (ent_ok (ent_ok (ent_ok (ent_ok (ent_ok (ent_ok (ent_ok (ent_ok (ent_ok .none mixed k_laws_toByteS) mixed k_laws_eqByteS) mixed k_laws_eqByteSS) mixed k_laws_markByteS) mixed k_laws_markByteSS) mixed k_laws_heldByteS) mixed k_laws_heldByteSS) mixed k_spec_l02Num) mixed k_spec_CutFrames) mixed k_impl_CutFrames) mixed k_laws_FnExactCutFrames
theorem q7 : T_toByteS tb1 n_laws_toByteS := fun a l H h hl => ent_spec (r_toByteS h hl)
theorem q10 : T_eqByteS tb2 n_laws_eqByteS := fun a b l H h h' hl => by
  obtain ⟨v, H', h1, rfl, rfl⟩ := ent_spec (f := n_laws_eqByteS) (r_eqByteS (C := tb1) h h' hl)
  exact h1
theorem q9 : T_eqByteSS tb3 n_laws_eqByteSS := fun a b els els' ls H h h' hb hb' hl hn => by
  obtain ⟨v, H', h1, rfl, rfl⟩ := ent_spec (f := n_laws_eqByteSS) (r_eqByteSS q10 h h' hb hb' hl hn)
  exact h1
theorem q11 : T_markByteS tb4 n_laws_markByteS := fun a l k H h hl hk => by
  obtain ⟨v, H', h1, rfl, h2⟩ := ent_spec (f := n_laws_markByteS) (r_markByteS (C := tb3) h hl hk)
  exact ⟨H', h1, h2⟩
theorem q12 : T_markByteSS tb5 n_laws_markByteSS := fun a els ls k H h hb hd hl hn => by
  obtain ⟨v, H', h1, rfl, h2⟩ := ent_spec (f := n_laws_markByteSS) (r_markByteSS q11 h hb hd hl hn)
  exact ⟨H', h1, h2⟩
theorem q14 : T_heldByteS tb6 n_laws_heldByteS := fun a m k H h hl hk => by
  obtain ⟨v, H', h1, rfl, rfl⟩ := ent_spec (f := n_laws_heldByteS) (r_heldByteS (C := tb5) h hl hk)
  exact h1
theorem q13 : T_heldByteSS tb7 n_laws_heldByteSS := fun a els ls k H h hb hl hn => by
  obtain ⟨v, H', h1, rfl, rfl⟩ := ent_spec (f := n_laws_heldByteSS) (r_heldByteSS q14 h hb hl hn)
  exact h1
theorem q30 : T_l02Num tb8 n_spec_l02Num := fun l H hl => by
  obtain ⟨v, H', h1, rfl, rfl⟩ := ent_spec (f := n_spec_l02Num) (r_l02Num (C := tb7) hl)
  exact h1
theorem q6 : T_cut tb9 n_spec_CutFrames := fun a b la lb H ha hb => ent_spec (r_spec_CutFrames q30 ha hb)
theorem q8 : T_cut tb10 n_impl_CutFrames := fun a b la lb H ha hb => ent_spec (r_impl_CutFrames ha hb)
theorem up {g : Nat} (h : g ≠ 8) (h6 : g ≠ 6) (h30 : g ≠ 30) : tb10 g = tb7 g := by
  unfold tb10 tb9 tb8
  rw [ext_fn h, ext_fn h6, ext_fn h30]
theorem law_CutFrames {a b : AV} {la lb : List UInt8} {H0 : AH} (ha : Byt H0 a la) (hb : Byt H0 b lb) : ∃ H', tb11 n_laws_FnExactCutFrames [a, b] H0 = some (.b true, H') := by
  have e7 : tb10 n_laws_toByteS = tb1 n_laws_toByteS := by
    rw [up (by decide) (by decide) (by decide)]; unfold tb7 tb6 tb5 tb4 tb3 tb2
    rw [ext_fn (by decide), ext_fn (by decide), ext_fn (by decide), ext_fn (by decide), ext_fn (by decide), ext_fn (by decide)]
  have e10 : tb10 n_laws_eqByteS = tb2 n_laws_eqByteS := by
    rw [up (by decide) (by decide) (by decide)]; unfold tb7 tb6 tb5 tb4 tb3
    rw [ext_fn (by decide), ext_fn (by decide), ext_fn (by decide), ext_fn (by decide), ext_fn (by decide)]
  have e9 : tb10 n_laws_eqByteSS = tb3 n_laws_eqByteSS := by
    rw [up (by decide) (by decide) (by decide)]; unfold tb7 tb6 tb5 tb4
    rw [ext_fn (by decide), ext_fn (by decide), ext_fn (by decide), ext_fn (by decide)]
  have e11 : tb10 n_laws_markByteS = tb4 n_laws_markByteS := by
    rw [up (by decide) (by decide) (by decide)]; unfold tb7 tb6 tb5
    rw [ext_fn (by decide), ext_fn (by decide), ext_fn (by decide)]
  have e12 : tb10 n_laws_markByteSS = tb5 n_laws_markByteSS := by
    rw [up (by decide) (by decide) (by decide)]; unfold tb7 tb6
    rw [ext_fn (by decide), ext_fn (by decide)]
  have e14 : tb10 n_laws_heldByteS = tb6 n_laws_heldByteS := by
    rw [up (by decide) (by decide) (by decide)]; unfold tb7
    rw [ext_fn (by decide)]
  have e13 : tb10 n_laws_heldByteSS = tb7 n_laws_heldByteSS := up (by decide) (by decide) (by decide)
  have e6 : tb10 n_spec_CutFrames = tb9 n_spec_CutFrames := by unfold tb10; rw [ext_fn (by decide)]
  obtain ⟨v, H', h1, rfl⟩ := ent_spec (f := n_laws_FnExactCutFrames) (r_law_CutFrames (C := tb10) (by unfold T_toByteS; rw [e7]; exact q7) (by unfold T_eqByteS; rw [e10]; exact q10) (by unfold T_eqByteSS; rw [e9]; exact q9)
    (by unfold T_markByteS; rw [e11]; exact q11) (by unfold T_markByteSS; rw [e12]; exact q12) (by unfold T_heldByteS; rw [e14]; exact q14) (by unfold T_heldByteSS; rw [e13]; exact q13) (by unfold T_cut; rw [e6]; exact q6) q8 ha hb)
  exact ⟨H', h1⟩
end Go.Vm
