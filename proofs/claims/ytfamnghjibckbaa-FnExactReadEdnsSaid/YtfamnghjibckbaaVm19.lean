/- Running is monotone and comes to one end; the rule of loops; a function's entry in a table, told by what holds of its end. -/
import Derived.Test.YtfamnghjibckbaaVm18
namespace Go.Vm
set_option linter.unusedVariables false
set_option linter.unusedSimpArgs false
section
variable {C : Tab}
theorem doOs_mono {κ κ' : Env → Mem → Prop} (h : ∀ e M, κ e M → κ' e M) : ∀ (l : List O) (e : Env) (M : Mem), doOs C l e M κ → doOs C l e M κ'
  | [], e, M, hk => h e M hk
  | x :: l, e, M, hk => by
    rcases gd_or x with ⟨t, b, y, rfl⟩ | hx
    · simp only [doOs] at hk ⊢
      exact ⟨hk.1, fun hb => ⟨(hk.2.1 hb).1, doOs_mono h l _ _ (hk.2.1 hb).2⟩, fun hb => doOs_mono h l _ _ (hk.2.2 hb)⟩
    · rw [doOs_ng hx] at hk ⊢
      exact ⟨hk.1, doOs_mono h l _ _ hk.2⟩
theorem doPs_mono {κ κ' : Env → Mem → Prop} (h : ∀ e M, κ e M → κ' e M) : ∀ (l : List PO) (i : Nat) (lg : List Lg) (e : Env) (M : Mem), doPs C i lg l e M κ → doPs C i lg l e M κ'
  | [], i, lg, e, M, hk => h e M hk
  | ⟨x, cf, kp⟩ :: l, i, lg, e, M, hk => by
    rcases gd_or x with ⟨t, b, y, rfl⟩ | hx
    · simp only [doPs] at hk ⊢
      exact ⟨hk.1, fun hb => ⟨(hk.2.1 hb).1, (hk.2.1 hb).2.1, doPs_mono h l _ _ _ _ (hk.2.1 hb).2.2⟩, fun hb => doPs_mono h l _ _ _ _ (hk.2.2 hb)⟩
    · rw [doPs_ng hx] at hk ⊢
      exact ⟨hk.1, hk.2.1, doPs_mono h l _ _ _ _ hk.2.2⟩
theorem exec_mono : ∀ (s : S) {κ κ' : Kont}, (∀ x e M, κ x e M → κ' x e M) → ∀ (e : Env) (M : Mem), exec C s e M κ → exec C s e M κ' := by
  intro s
  induction s with
  | k => exact fun h e M hk => h _ _ _ hk
  | o l => exact fun h e M hk => doOs_mono (fun e M => h .nx e M) l e M hk
  | p l => exact fun h e M hk => doPs_mono (fun e M => h .nx e M) l 0 [] e M hk
  | q a b iha ihb =>
    exact fun h e M hk => iha (fun x e M hx => by
      cases x with
      | nx => exact ihb h e M hx
      | ex id => exact h _ _ _ hx
      | rt => exact h _ _ _ hx) e M hk
  | i c a b iha ihb => exact fun h e M hk => ⟨hk.1, fun hc => iha h e M (hk.2.1 hc), fun hc => ihb h e M (hk.2.2 hc)⟩
  | b id s ih =>
    exact fun h e M hk => ih (fun x e M hx => by
      cases x with
      | nx => exact h _ _ _ hx
      | ex j =>
        simp only [kBlk] at hx ⊢
        by_cases hj : j = id
        · rw [if_pos hj] at hx ⊢; exact h _ _ _ hx
        · rw [if_neg hj] at hx ⊢; exact h _ _ _ hx
      | rt => exact h _ _ _ hx) e M hk
  | l live s ih =>
    intro κ κ' h e M hk
    obtain ⟨n, hn⟩ := hk
    refine ⟨n, ?_⟩
    induction n generalizing e M with
    | zero => exact hn
    | succ n ihn =>
      exact ih (fun x e M hx => by
        cases x with
        | nx => exact ihn e M hx
        | ex id => exact h _ _ _ hx
        | rt => exact h _ _ _ hx) _ _ hn
  | x id => exact fun h e M hk => h _ _ _ hk
  | r => exact fun h e M hk => h _ _ _ hk
theorem b_or {v : AV} (h : v.isB = true) (b : Bool) : v = .b b ∨ v = .b (!b) := by
  cases v <;> try exact absurd h Bool.false_ne_true
  rename_i x
  cases b <;> cases x <;> simp
theorem b_ne (b : Bool) : (AV.b b) ≠ .b (!b) := by cases b <;> simp
theorem doOs_det {κ : Env → Mem → Prop} : ∀ (l : List O) (e : Env) (M : Mem), doOs C l e M κ → ∃ e' M', κ e' M' ∧ doOs C l e M fun e2 M2 => e2 = e' ∧ M2 = M'
  | [], e, M, hk => ⟨e, M, hk, rfl, rfl⟩
  | x :: l, e, M, hk => by
    rcases gd_or x with ⟨t, b, y, rfl⟩ | hx
    · simp only [doOs] at hk ⊢
      rcases b_or hk.1 b with hb | hb
      · obtain ⟨e', M', h1, h2⟩ := doOs_det l _ _ (hk.2.1 hb).2
        exact ⟨e', M', h1, hk.1, fun _ => ⟨(hk.2.1 hb).1, h2⟩, fun hb' => absurd (hb.symm.trans hb') (b_ne b)⟩
      · obtain ⟨e', M', h1, h2⟩ := doOs_det l _ _ (hk.2.2 hb)
        exact ⟨e', M', h1, hk.1, fun hb' => absurd (hb'.symm.trans hb) (b_ne b), fun _ => h2⟩
    · rw [doOs_ng hx] at hk
      obtain ⟨e', M', h1, h2⟩ := doOs_det l _ _ hk.2
      exact ⟨e', M', h1, by rw [doOs_ng hx]; exact ⟨hk.1, h2⟩⟩
theorem doPs_det {κ : Env → Mem → Prop} : ∀ (l : List PO) (i : Nat) (lg : List Lg) (e : Env) (M : Mem), doPs C i lg l e M κ → ∃ e' M', κ e' M' ∧ doPs C i lg l e M fun e2 M2 => e2 = e' ∧ M2 = M'
  | [], i, lg, e, M, hk => ⟨e, M, hk, rfl, rfl⟩
  | ⟨x, cf, kp⟩ :: l, i, lg, e, M, hk => by
    rcases gd_or x with ⟨t, b, y, rfl⟩ | hx
    · simp only [doPs] at hk ⊢
      rcases b_or hk.1 b with hb | hb
      · obtain ⟨e', M', h1, h2⟩ := doPs_det l _ _ _ _ (hk.2.1 hb).2.2
        exact ⟨e', M', h1, hk.1, fun _ => ⟨(hk.2.1 hb).1, (hk.2.1 hb).2.1, h2⟩, fun hb' => absurd (hb.symm.trans hb') (b_ne b)⟩
      · obtain ⟨e', M', h1, h2⟩ := doPs_det l _ _ _ _ (hk.2.2 hb)
        exact ⟨e', M', h1, hk.1, fun hb' => absurd (hb'.symm.trans hb) (b_ne b), fun _ => h2⟩
    · rw [doPs_ng hx] at hk
      obtain ⟨e', M', h1, h2⟩ := doPs_det l _ _ _ _ hk.2.2
      exact ⟨e', M', h1, by rw [doPs_ng hx]; exact ⟨hk.1, hk.2.1, h2⟩⟩
theorem exec_det : ∀ (s : S) {κ : Kont} (e : Env) (M : Mem), exec C s e M κ → ∃ x e' M', κ x e' M' ∧ exec C s e M fun x2 e2 M2 => x2 = x ∧ e2 = e' ∧ M2 = M' := by
  intro s
  induction s with
  | k => exact fun e M hk => ⟨.nx, e, M, hk, rfl, rfl, rfl⟩
  | o l =>
    intro κ e M hk
    obtain ⟨e', M', h1, h2⟩ := doOs_det l e M hk
    exact ⟨.nx, e', M', h1, doOs_mono (fun _ _ h => ⟨rfl, h⟩) l e M h2⟩
  | p l =>
    intro κ e M hk
    obtain ⟨e', M', h1, h2⟩ := doPs_det l 0 [] e M hk
    exact ⟨.nx, e', M', h1, doPs_mono (fun _ _ h => ⟨rfl, h⟩) l 0 [] e M h2⟩
  | q a b iha ihb =>
    intro κ e M hk
    obtain ⟨x, e1, M1, h1, h2⟩ := iha e M hk
    cases x with
    | nx =>
      obtain ⟨x2, e2, M2, g1, g2⟩ := ihb e1 M1 h1
      refine ⟨x2, e2, M2, g1, exec_mono a (fun x e M ⟨a1, a2, a3⟩ => ?_) e M h2⟩
      subst a1 a2 a3; exact g2
    | ex id =>
      refine ⟨.ex id, e1, M1, h1, exec_mono a (fun x e M ⟨a1, a2, a3⟩ => ?_) e M h2⟩
      subst a1 a2 a3; exact ⟨rfl, rfl, rfl⟩
    | rt =>
      refine ⟨.rt, e1, M1, h1, exec_mono a (fun x e M ⟨a1, a2, a3⟩ => ?_) e M h2⟩
      subst a1 a2 a3; exact ⟨rfl, rfl, rfl⟩
  | i c a b iha ihb =>
    intro κ e M hk
    rcases b_or hk.1 true with hb | hb
    · obtain ⟨x, e1, M1, h1, h2⟩ := iha e M (hk.2.1 hb)
      exact ⟨x, e1, M1, h1, hk.1, fun _ => h2, fun hb' => absurd (hb.symm.trans hb') (b_ne true)⟩
    · obtain ⟨x, e1, M1, h1, h2⟩ := ihb e M (hk.2.2 hb)
      exact ⟨x, e1, M1, h1, hk.1, fun hb' => absurd (hb'.symm.trans hb) (b_ne true), fun _ => h2⟩
  | b id s ih =>
    intro κ e M hk
    obtain ⟨x, e1, M1, h1, h2⟩ := ih e M hk
    cases x with
    | nx =>
      refine ⟨.nx, e1, M1, h1, exec_mono s (fun x e M ⟨a1, a2, a3⟩ => ?_) e M h2⟩
      subst a1 a2 a3; exact ⟨rfl, rfl, rfl⟩
    | ex j =>
      by_cases hj : j = id
      · simp only [kBlk, if_pos hj] at h1
        refine ⟨.nx, e1, M1, h1, exec_mono s (fun x e M ⟨a1, a2, a3⟩ => ?_) e M h2⟩
        subst a1 a2 a3
        simp only [kBlk, if_pos hj]; simp
      · simp only [kBlk, if_neg hj] at h1
        refine ⟨.ex j, e1, M1, h1, exec_mono s (fun x e M ⟨a1, a2, a3⟩ => ?_) e M h2⟩
        subst a1 a2 a3
        simp only [kBlk, if_neg hj]; simp
    | rt =>
      refine ⟨.rt, e1, M1, h1, exec_mono s (fun x e M ⟨a1, a2, a3⟩ => ?_) e M h2⟩
      subst a1 a2 a3; exact ⟨rfl, rfl, rfl⟩
  | l live s ih =>
    intro κ e M hk
    obtain ⟨n, hn⟩ := hk
    have : ∃ x e' M', κ x e' M' ∧ loopN (exec C s) live (fun x2 e2 M2 => x2 = x ∧ e2 = e' ∧ M2 = M') n e M := by
      induction n generalizing e M with
      | zero => exact hn.elim
      | succ n ihn =>
        obtain ⟨x, e1, M1, h1, h2⟩ := ih _ _ hn
        cases x with
        | nx =>
          obtain ⟨x2, e2, M2, g1, g2⟩ := ihn e1 M1 h1
          refine ⟨x2, e2, M2, g1, exec_mono s (fun x e M ⟨a1, a2, a3⟩ => ?_) _ _ h2⟩
          subst a1 a2 a3; exact g2
        | ex id =>
          refine ⟨.ex id, e1, M1, h1, exec_mono s (fun x e M ⟨a1, a2, a3⟩ => ?_) _ _ h2⟩
          subst a1 a2 a3; exact ⟨rfl, rfl, rfl⟩
        | rt =>
          refine ⟨.rt, e1, M1, h1, exec_mono s (fun x e M ⟨a1, a2, a3⟩ => ?_) _ _ h2⟩
          subst a1 a2 a3; exact ⟨rfl, rfl, rfl⟩
    obtain ⟨x, e', M', h1, h2⟩ := this
    exact ⟨x, e', M', h1, n, h2⟩
  | x id => exact fun e M hk => ⟨.ex id, e, M, hk, rfl, rfl, rfl⟩
  | r => exact fun e M hk => ⟨.rt, e, M, hk, rfl, rfl, rfl⟩
/-- A loop: I n: at most n rounds more. -/
theorem exec_loop {live : List Nat} {s : S} {κ : Kont} (I : Nat → Env → Mem → Prop) (hs : ∀ n e M, I n e M → exec C s (keepE e live) (M.keep live) (kSeq (fun e' M' _ => ∃ m, m < n ∧ I m e' M') κ)) : ∀ {n : Nat} {e : Env} {M : Mem}, I n e M → exec C (.l live s) e M κ := by
  intro n
  induction n using Nat.strongRecOn with
  | ind n ih =>
    intro e M hI
    obtain ⟨x, e1, M1, h1, h2⟩ := exec_det s _ _ (hs n e M hI)
    cases x with
    | nx =>
      obtain ⟨m, hm, hI'⟩ := h1
      obtain ⟨k, hk⟩ := ih m hm hI'
      refine ⟨k + 1, exec_mono s (fun x e M ⟨a1, a2, a3⟩ => ?_) _ _ h2⟩
      subst a1 a2 a3; exact hk
    | ex id =>
      refine ⟨1, exec_mono s (fun x e M ⟨a1, a2, a3⟩ => ?_) _ _ h2⟩
      subst a1 a2 a3; exact h1
    | rt =>
      refine ⟨1, exec_mono s (fun x e M ⟨a1, a2, a3⟩ => ?_) _ _ h2⟩
      subst a1 a2 a3; exact h1

theorem doOs_and {κ κ' : Env → Mem → Prop} : ∀ (l : List O) (e : Env) (M : Mem), doOs C l e M κ → doOs C l e M κ' → ∃ e' M', κ e' M' ∧ κ' e' M'
  | [], e, M, h, h' => ⟨e, M, h, h'⟩
  | x :: l, e, M, h, h' => by
    rcases gd_or x with ⟨t, b, y, rfl⟩ | hx
    · simp only [doOs] at h h'
      rcases b_or h.1 b with hb | hb
      · exact doOs_and l _ _ (h.2.1 hb).2 (h'.2.1 hb).2
      · exact doOs_and l _ _ (h.2.2 hb) (h'.2.2 hb)
    · rw [doOs_ng hx] at h h'
      exact doOs_and l _ _ h.2 h'.2
theorem doPs_and {κ κ' : Env → Mem → Prop} : ∀ (l : List PO) (i : Nat) (lg : List Lg) (e : Env) (M : Mem), doPs C i lg l e M κ → doPs C i lg l e M κ' → ∃ e' M', κ e' M' ∧ κ' e' M'
  | [], i, lg, e, M, h, h' => ⟨e, M, h, h'⟩
  | ⟨x, cf, kp⟩ :: l, i, lg, e, M, h, h' => by
    rcases gd_or x with ⟨t, b, y, rfl⟩ | hx
    · simp only [doPs] at h h'
      rcases b_or h.1 b with hb | hb
      · exact doPs_and l _ _ _ _ (h.2.1 hb).2.2 (h'.2.1 hb).2.2
      · exact doPs_and l _ _ _ _ (h.2.2 hb) (h'.2.2 hb)
    · rw [doPs_ng hx] at h h'
      exact doPs_and l _ _ _ _ h.2.2 h'.2.2
theorem exec_and : ∀ (s : S) {κ κ' : Kont} (e : Env) (M : Mem), exec C s e M κ → exec C s e M κ' → ∃ x e' M', κ x e' M' ∧ κ' x e' M' := by
  intro s
  induction s with
  | k => exact fun e M h h' => ⟨_, _, _, h, h'⟩
  | o l => exact fun e M h h' => ⟨.nx, doOs_and l e M h h'⟩
  | p l => exact fun e M h h' => ⟨.nx, doPs_and l 0 [] e M h h'⟩
  | q a b iha ihb =>
    intro κ κ' e M h h'
    obtain ⟨x, e1, M1, h1, h2⟩ := iha e M h h'
    cases x with
    | nx => exact ihb e1 M1 h1 h2
    | ex id => exact ⟨_, _, _, h1, h2⟩
    | rt => exact ⟨_, _, _, h1, h2⟩
  | i c a b iha ihb =>
    intro κ κ' e M h h'
    rcases b_or h.1 true with hb | hb
    · exact iha e M (h.2.1 hb) (h'.2.1 hb)
    · exact ihb e M (h.2.2 hb) (h'.2.2 hb)
  | b id s ih =>
    intro κ κ' e M h h'
    obtain ⟨x, e1, M1, h1, h2⟩ := ih e M h h'
    cases x with
    | nx => exact ⟨_, _, _, h1, h2⟩
    | ex j =>
      simp only [kBlk] at h1 h2
      by_cases hj : j = id
      · rw [if_pos hj] at h1 h2; exact ⟨_, _, _, h1, h2⟩
      · rw [if_neg hj] at h1 h2; exact ⟨_, _, _, h1, h2⟩
    | rt => exact ⟨_, _, _, h1, h2⟩
  | l live s ih =>
    intro κ κ' e M h h'
    obtain ⟨n, hn⟩ := h
    obtain ⟨m, hm⟩ := h'
    induction n generalizing e M m with
    | zero => exact hn.elim
    | succ n ihn =>
      cases m with
      | zero => exact hm.elim
      | succ m =>
        obtain ⟨x, e1, M1, h1, h2⟩ := ih _ _ hn hm
        cases x with
        | nx => exact ihn e1 M1 h1 m h2
        | ex id => exact ⟨_, _, _, h1, h2⟩
        | rt => exact ⟨_, _, _, h1, h2⟩
  | x id => exact fun e M h h' => ⟨_, _, _, h, h'⟩
  | r => exact fun e M h h' => ⟨_, _, _, h, h'⟩

/-! Entries. -/
/-- What is shown of a function's run. -/
def endK (rs : List Rs) (G : AV → AH → Prop) : Kont := fun x e M => (match x with | .ex _ => False | _ => True) ∧ rsC e M rs ∧ G (resV (rsV e M rs)) M.h
def Runs (C : Tab) (F : Fn) (vs : List AV) (H : AH) (G : AV → AH → Prop) : Prop := exec C F.s (args 0 vs) ⟨[], 0, H⟩ (endK F.rs G)
theorem Runs.mono {F : Fn} {vs : List AV} {H : AH} {G G' : AV → AH → Prop} (h : Runs C F vs H G) (hg : ∀ v H', G v H' → G' v H') : Runs C F vs H G' :=
  exec_mono _ (fun _ _ _ hk => ⟨hk.1, hk.2.1, hg _ _ hk.2.2⟩) _ _ h
theorem Runs.ex {F : Fn} {vs : List AV} {H : AH} {G : AV → AH → Prop} (h : Runs C F vs H G) : ∃ r : AV × AH, Runs C F vs H (fun v H' => v = r.1 ∧ H' = r.2) := by
  obtain ⟨x, e', M', ⟨h1, h2, h3⟩, h5⟩ := exec_det _ _ _ h
  refine ⟨(resV (rsV e' M' F.rs), M'.h), exec_mono _ (fun x e M ⟨a1, a2, a3⟩ => ?_) _ _ h5⟩
  subst a1 a2 a3
  exact ⟨h1, h2, rfl, rfl⟩
open Classical in
/-- The entry: what the run comes to, where it comes to an end. -/
noncomputable def ent (C : Tab) (F : Fn) (vs : List AV) (H : AH) : Option (AV × AH) :=
  if h : ∃ r : AV × AH, Runs C F vs H (fun v H' => v = r.1 ∧ H' = r.2) then some h.choose else none
theorem ent_ok {P : Program} {F : Fn} {f : Nat} (hC : TabOK P C) (hmx : P.follows .mixedOrders = true) (hF : chkF P F f = true) : TabOK P (ext C f (ent C F)) :=
  hC.ext hmx hF fun vs H v H' h => by
    unfold ent at h
    split at h
    · rename_i hx
      have he := Option.some.inj h
      have h2 := hx.choose_spec
      rw [he] at h2
      exact exec_mono _ (fun x e M hk => ⟨hk.1, hk.2.1, .inl hk.2.2⟩) _ _ h2
    · cases h
theorem ent_spec {F : Fn} {f : Nat} {G : AV → AH → Prop} {vs : List AV} {H : AH} (h : Runs C F vs H G) : ∃ v H', ext C f (ent C F) f vs H = some (v, H') ∧ G v H' := by
  have hx := h.ex
  refine ⟨hx.choose.1, hx.choose.2, ?_, ?_⟩
  · unfold Vm.ext ent
    rw [if_pos rfl, dif_pos hx]
  · obtain ⟨x, e, M, h1, h2⟩ := exec_and _ _ _ h hx.choose_spec
    rw [← h2.2.2.1, ← h2.2.2.2]; exact h1.2.2
theorem ext_old {f g : Nat} {m : List AV → AH → Option (AV × AH)} {vs : List AV} {H : AH} (h : g ≠ f) : ext C f m g vs H = C g vs H := if_neg h
end
end Go.Vm
