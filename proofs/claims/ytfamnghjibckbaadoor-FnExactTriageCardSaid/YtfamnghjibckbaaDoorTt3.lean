import Derived.Test.YtfamnghjibckbaaDoorTt2
import Derived.Control
import Derived.LoopN
import Derived.Laws.BitsLemmas
import Derived.Test.YtfamnghjibckbaaDoorProg
import Derived.KernelRfl
/- Statements, functions, tables of functions. -/
namespace Go.Vm
set_option linter.unusedVariables false
set_option linter.unusedSimpArgs false
def chkS (P : Program) (N : Nat) : S → Code → Bool
  | .k, .skip => true
  | .o l, .region _ ops false => chkOs P ops l ops.toList && okDs N l
  | .p l, .region _ ops true => chkP P N l ops
  | .q a b, .seq x y => chkS P N a x && chkS P N b y
  | .i c a b, .cond d x y => chkX P c d && chkS P N a x && chkS P N b y
  | .b id s, .block id' c => id == id' && chkS P N s c
  | .l _ s, .loop c => chkS P N s c
  | .x id, .exit id' => id == id'
  | .r, .ret => true
  | _, _ => false
def exitOf : X → Exit
  | .nx => .normal
  | .ex id => .exit id
  | .rt => .ret
section
variable {P : Program} {B : Base} {C : Tab} {N : Nat}
theorem look_keep {e : Env} {t : Nat} : ∀ {l : List Nat}, look (keepE e l) t = look e t ∨ look (keepE e l) t = .u
  | [] => .inr rfl
  | m :: r => by
    simp only [keepE, look]
    by_cases h : m = t
    · rw [if_pos h, h]; exact .inl rfl
    · rw [if_neg h]; exact look_keep
theorem lookL_keep {live : List Nat} : ∀ {l : List Lv} {t g k : Nat} {xs : List AV}, lookL (keepL live l) t g k = some xs → lookL l t g k = some xs
  | [], _, _, _, _, h => h
  | v :: r, t, g, k, xs, h => by
    simp only [keepL] at h
    by_cases hm : memN live v.t = true
    · rw [if_pos hm] at h
      simp only [lookL] at h ⊢
      by_cases ht : v.t = t
      · rw [if_pos ht] at h ⊢; exact h
      · rw [if_neg ht] at h ⊢; exact lookL_keep h
    · rw [if_neg hm] at h
      simp only [lookL]
      have := lookL_keep h
      by_cases ht : v.t = t
      · exfalso
        have hno : ∀ {l : List Lv}, lookL (keepL live l) t g k = some xs → memN live t = true := by
          intro l
          induction l with
          | nil => intro h; cases h
          | cons u l ih =>
            intro h
            simp only [keepL] at h
            by_cases hu : memN live u.t = true
            · rw [if_pos hu] at h
              simp only [lookL] at h
              by_cases hut : u.t = t
              · rw [← hut]; exact hu
              · rw [if_neg hut] at h; exact ih h
            · rw [if_neg hu] at h; exact ih h
        rw [ht] at hm
        exact hm (hno h)
      · rw [if_neg ht]; exact this
theorem Ex.keep {e : Env} {M : Mem} {a : Act} {w : World} {live : List Nat} (h : Ex B N e M a w) : Ex B N (keepE e live) (M.keep live) a w := by
  obtain ⟨ρ, h⟩ := h
  refine ⟨ρ, fun t => ?_, ?_, h.dfr, h.sz⟩
  · rcases look_keep (e := e) (t := t) (l := live) with h1 | h1
    · rw [h1]; exact h.env t
    · rw [h1]; trivial
  · obtain ⟨m1, m2, m3, m4, m5, m6, m7, m8, m9, m10, m11, m12, m13⟩ := h.mem
    exact ⟨m1, fun t g k xs hv => m2 t g k xs (lookL_keep hv), m3, m4, m5, m6, m7, m8, m9, m10, m11, m12, m13⟩
theorem exec_ok (hC : TabOK P C) (hG : B.G = P.globals.size) (hmx : P.follows .mixedOrders = true) : ∀ (s : S) (c : Code) (κ : Kont) (Q : Exit → Act → World → Prop) (e : Env) (M : Mem) (a : Act) (w : World), chkS P N s c = true →
    (∀ x e M a w, κ x e M → Ex B N e M a w → Q (exitOf x) a w) → exec C s e M κ → Ex B N e M a w → c.wp P Q a w := by
  intro s
  induction s with
  | k =>
    intro c κ Q e M a w hc hQ h hx
    cases c <;> simp [chkS] at hc
    exact wp_skip (hQ .nx e M a w h hx)
  | o l =>
    intro c κ Q e M a w hc hQ h hx
    cases c <;> try (simp [chkS] at hc; done)
    rename_i id ops draw
    cases draw <;> simp [chkS] at hc
    exact text_ok hC hG (fun e M a w => hQ .nx e M a w) hc.1 hc.2 h hx
  | p l =>
    intro c κ Q e M a w hc hQ h hx
    cases c <;> try (simp [chkS] at hc; done)
    rename_i id ops draw
    cases draw <;> simp [chkS] at hc
    exact draw_ok hC hG hmx (fun e M a w => hQ .nx e M a w) hc h hx
  | q s1 s2 ih1 ih2 =>
    intro c κ Q e M a w hc hQ h hx
    cases c <;> simp [chkS] at hc
    rename_i x y
    refine wp_seq (ih1 x _ _ e M a w hc.1 (fun x e M a w hk hx => ?_) h hx)
    cases x with
    | nx => exact ih2 y κ Q e M a w hc.2 hQ hk hx
    | ex id => exact hQ (.ex id) e M a w hk hx
    | rt => exact hQ .rt e M a w hk hx
  | i c0 s1 s2 ih1 ih2 =>
    intro c κ Q e M a w hc hQ h hx
    cases c <;> simp [chkS] at hc
    rename_i d x y
    obtain ⟨h1, h2, h3⟩ := h
    obtain ⟨ρ, hst⟩ := hx
    obtain ⟨b, hb, hv⟩ := (chkX_sound hst.mem hG hc.1.1 (fun t _ => hst.env t)).bool h1
    refine wp_cond (t := b) hv ?_
    cases b with
    | true => exact ih1 x κ Q e M a w hc.1.2 hQ (h2 hb) ⟨ρ, hst⟩
    | false => exact ih2 y κ Q e M a w hc.2 hQ (h3 hb) ⟨ρ, hst⟩
  | b id s ih =>
    intro c κ Q e M a w hc hQ h hx
    cases c <;> simp [chkS] at hc
    rename_i id' c
    obtain ⟨rfl, hc⟩ := hc
    refine wp_block (ih c _ _ e M a w hc (fun x e M a w hk hx => ?_) h hx)
    cases x with
    | nx => exact hQ .nx e M a w hk hx
    | ex j =>
      simp only [kBlk] at hk
      simp only [exitOf, Exit.inBlock]
      by_cases hj : j = id
      · rw [if_pos hj] at hk ⊢; exact hQ .nx e M a w hk hx
      · rw [if_neg hj] at hk ⊢; exact hQ (.ex j) e M a w hk hx
    | rt => exact hQ .rt e M a w hk hx
  | l live s ih =>
    intro c κ Q e M a w hc hQ h hx
    cases c <;> simp [chkS] at hc
    rename_i c
    obtain ⟨n, hn⟩ := h
    refine wp_loop_rounds n ?_
    induction n generalizing e M a w with
    | zero => exact hn.elim
    | succ n ihn =>
      rw [rounds_succ]
      refine ih c _ _ _ _ a w hc (fun x e M a w hk hx => ?_) hn hx.keep
      cases x with
      | nx => exact ihn e M a w hx hk
      | ex id => exact hQ (.ex id) e M a w hk hx
      | rt => exact hQ .rt e M a w hk hx
  | x id =>
    intro c κ Q e M a w hc hQ h hx
    cases c <;> simp [chkS] at hc
    subst hc
    exact wp_exit (hQ (.ex id) e M a w h hx)
  | r =>
    intro c κ Q e M a w hc hQ h hx
    cases c <;> simp [chkS] at hc
    exact wp_ret (hQ .rt e M a w h hx)
end
/-! Functions. -/
def chkRs (P : Program) : List Rs → List ResultVar → Bool
  | [], [] => true
  | .t n :: r, .tmp m :: q => n == m && chkRs P r q
  | .c n sz :: r, .cell a t :: q => n == a && nT P t == some sz && chkRs P r q
  | _, _ => false
def chkB (P : Program) (F : Fn) (fn : Func) : Bool :=
  match fn.body with
  | some c => !(fn.name == "runtime.NumGoroutine") && chkRs P F.rs fn.results.toList && chkS P fn.ntmps F.s c
  | none => false
def chkF (P : Program) (F : Fn) (f : Nat) : Bool :=
  match P.funcs[f]? with
  | some fn => chkB P F fn
  | none => false
/-- How a function ends. -/
def fin (F : Fn) (H : AH) (v : AV) (H' : AH) : Kont := fun x e M => (match x with | .ex _ => False | _ => True) ∧ rsC e M F.rs ∧ Fits H M.h (resV (rsV e M F.rs)) v H'
section
variable {P : Program} {B : Base} {C : Tab} {N : Nat}
def resF (tmps : Array Value) : ResultVar → Sem Value
  | .tmp t => pure (tmps.getD t undef)
  | .cell x t => do loadVar t (← asAddr (tmps.getD x undef))
theorem results_eq (fn : Func) (tmps : Array Value) : results fn tmps = (do
    let vs ← fn.results.mapM (resF tmps)
    pure (if h : vs.size = 1 then vs[0] else .tuple vs)) := rfl
theorem run_results {ρ : Rn} {e : Env} {M : Mem} {a : Act} {w : World} (h : StR B N ρ e M a w) : ∀ (rs : List Rs) (l : List ResultVar), chkRs P rs l = true → rsC e M rs →
    ∃ vs, (l.mapM (resF a.tmps)).run P w = .ok vs w ∧ All2 (V1 ρ) (rsV e M rs) vs
  | [], [], _, _ => ⟨[], by simp, trivial⟩
  | .t n :: r, .tmp m :: q, hc, hk => by
    simp only [chkRs, Bool.and_eq_true, beq_iff_eq] at hc
    obtain ⟨rfl, hc⟩ := hc
    obtain ⟨vs, h1, h2⟩ := run_results h r q hc hk.2
    exact ⟨a.tmps.getD n undef :: vs, by rw [List.mapM_cons]; simp only [Sem.run_bind, resF, Sem.run_pure, Result.andThen_ok]; rw [h1]; rfl, (h.env n).out hk.1, h2⟩
  | .c n sz :: r, .cell x t :: q, hc, hk => by
    simp only [chkRs, Bool.and_eq_true, beq_iff_eq] at hc
    obtain ⟨⟨rfl, ht⟩, hc⟩ := hc
    obtain ⟨vs, h1, h2⟩ := run_results h r q hc hk.2
    obtain ⟨ad, v, g1, g2, g3⟩ := ld_run ht hk.1 (h.env n) h.mem
    exact ⟨v :: vs, by rw [List.mapM_cons]; simp only [Sem.run_bind, resF]; rw [g1]; simp only [asAddr, Sem.run_pure, Result.andThen_ok, g2]; rw [h1]; rfl, g3, h2⟩
  | [], _ :: _, hc, _ => by simp [chkRs] at hc
  | .t _ :: _, [], hc, _ => by simp [chkRs] at hc
  | .c .. :: _, [], hc, _ => by simp [chkRs] at hc
  | .t _ :: _, .cell .. :: _, hc, _ => by simp [chkRs] at hc
  | .c .. :: _, .tmp _ :: _, hc, _ => by simp [chkRs] at hc
theorem run_res {ρ : Rn} {e : Env} {M : Mem} {a : Act} {w : World} {fn : Func} {rs : List Rs} (h : StR B N ρ e M a w) (hc : chkRs P rs fn.results.toList = true) (hk : rsC e M rs) :
    ∃ v, (results fn a.tmps).run P w = .ok v w ∧ V2 ρ (resV (rsV e M rs)) v := by
  obtain ⟨vs, h1, h2⟩ := run_results h rs fn.results.toList hc hk
  refine ⟨if h : vs.toArray.size = 1 then vs.toArray[0] else .tuple vs.toArray, ?_, ?_⟩
  · rw [results_eq, Array.mapM_eq_mapM_toList]
    simp only [Sem.run_bind, Sem.run_map]
    rw [h1]
    rfl
  · cases hr : rsV e M rs with
    | nil =>
      rw [hr] at h2
      cases vs with
      | nil => exact ⟨#[], rfl, trivial⟩
      | cons => exact h2.elim
    | cons x l =>
      rw [hr] at h2
      cases vs with
      | nil => exact h2.elim
      | cons y m =>
        cases l with
        | nil =>
          cases m with
          | nil => exact V2.of h2.1
          | cons => exact h2.2.elim
        | cons x2 l =>
          cases m with
          | nil => exact h2.2.elim
          | cons y2 m =>
            rw [dif_neg (by simp)]
            exact ⟨_, rfl, h2⟩
theorem look_args {ρ : Rn} : ∀ (vs : List AV) (i : Nat) (rv : List Value) (t : Nat), All2 (V1 ρ) vs rv → look (args i vs) t = .u ∨ ∃ v, i ≤ t ∧ rv[t - i]? = some v ∧ V1 ρ (look (args i vs) t) v
  | [], i, _, t, _ => .inl rfl
  | x :: r, i, [], t, h => h.elim
  | x :: r, i, y :: q, t, h => by
    simp only [args, look]
    by_cases ht : i = t
    · subst ht
      rw [if_pos rfl]
      exact .inr ⟨y, Nat.le_refl _, by simp, h.1⟩
    · rw [if_neg ht]
      rcases look_args r (i + 1) q t h.2 with h1 | ⟨v, h1, h2, h3⟩
      · exact .inl h1
      · refine .inr ⟨v, by omega, ?_, h3⟩
        rw [show t - i = (t - (i + 1)) + 1 by omega]
        simpa using h2
theorem fn_back {F : Fn} {f : Nat} {vs : List AV} {H H' : AH} {v : AV} (hC : TabOK P C) (hmx : P.follows .mixedOrders = true) (hF : chkF P F f = true) (hx : exec C F.s (args 0 vs) ⟨[], 0, H⟩ (fin F H v H')) :
    ∀ ρ w rargs, HeapR ρ H w → Globs ρ P.globals.size → All2 (V1 ρ) vs rargs.toList → Calls P f rargs w (Back ρ w v H') := by
  intro ρ w rargs hH hgl hv
  unfold chkF at hF
  split at hF
  · rename_i fn hf
    unfold chkB at hF
    split at hF
    · rename_i c hb
      simp only [Bool.and_eq_true] at hF
      obtain ⟨⟨-, hrs⟩, hcs⟩ := hF
      refine calls_of_wp hf hb ?_
      let ρ1 : Rn := { ρ with lo := fun _ _ => none }
      have hle : ρ.Le ρ1 := ⟨fun _ p h => ⟨p, h, rfl, rfl, rfl, rfl, rfl, Nat.le_refl _⟩, fun _ _ h => h⟩
      have hH1 : HeapR ρ1 H w := hH.of hle rfl rfl (Nat.le_refl _) (fun _ _ _ => ⟨rfl, rfl⟩) hH.bnd fun _ _ h => h
      let B : Base := ⟨P.globals.size, w, ρ1⟩
      have hM : MemR B ρ1 ⟨[], 0, H⟩ w := ⟨hH1, fun t g k xs h => (by cases h), fun _ _ _ => rfl, fun t g t' g' b z z' h => (by cases h), fun t g b z h => (by cases h), Rn.Le.refl _, fun _ _ _ => rfl, fun _ _ => rfl, Nat.le_refl _, rfl, rfl, rfl, hgl⟩
      refine exec_ok (B := B) (N := fn.ntmps) hC rfl hmx F.s c _ _ _ _ _ w hcs (fun x e M a' w' hk hx => ?_) hx ⟨ρ1, fun t => ?_, hM, rfl, by simp; omega⟩
      · obtain ⟨k1, k2, k3⟩ := hk
        obtain ⟨ρ', hst⟩ := hx
        obtain ⟨r, r1, r2⟩ := run_res (fn := fn) hst hrs k2
        have hm := hst.mem
        have hS : Stp ρ w ρ' w' := ⟨hle.trans hm.le, hm.own, hm.frame, hm.sz, hm.os, hm.tape, hm.out⟩
        have hB : Back ρ w v H' (.returned r) w' := k3.back hH hS r2 hm.heap
        cases x with
        | nx => exact ⟨hst.dfr, r, r1, hB⟩
        | rt => exact ⟨hst.dfr, r, r1, hB⟩
        | ex _ => exact k1.elim
      · rcases look_args vs 0 rargs.toList t hv with h | ⟨y, -, h2, h3⟩
        · rw [h]; trivial
        · have hy : rargs[t]? = some y := by simpa using h2
          have : (rargs ++ Array.replicate (fn.ntmps - rargs.size) undef).getD t undef = y := by
            rw [Array.getD_eq_getD_getElem?, Array.getElem?_append_left (Array.getElem?_eq_some_iff.1 hy).1, hy]
            rfl
          show VE ρ1 _ ((rargs ++ Array.replicate (fn.ntmps - rargs.size) undef).getD t undef)
          rw [this]
          exact VE.of (V2.of (V1.mono hle h3))
    · cases hF
  · cases hF
/-- A table with one function more. -/
def ext (C : Tab) (f : Nat) (m : List AV → AH → Option (AV × AH)) : Tab := fun g vs H => if g = f then m vs H else C g vs H
theorem TabOK.none : TabOK P fun _ _ _ => Option.none := fun _ _ _ _ _ h => by cases h
theorem TabOK.ext {F : Fn} {f : Nat} {m : List AV → AH → Option (AV × AH)} (hC : TabOK P C) (hmx : P.follows .mixedOrders = true) (hF : chkF P F f = true)
    (hx : ∀ vs H v H', m vs H = some (v, H') → exec C F.s (args 0 vs) ⟨[], 0, H⟩ (fin F H v H')) : TabOK P (ext C f m) := by
  intro g vs H v H' h
  unfold Vm.ext at h
  by_cases hg : g = f
  · rw [if_pos hg] at h
    subst hg
    refine ⟨?_, fn_back hC hmx hF (hx vs H v H' h)⟩
    unfold chkF at hF
    split at hF
    · rename_i fn hf
      unfold chkB at hF
      split at hF
      · rename_i c hb
        simp only [Bool.and_eq_true, Bool.not_eq_true'] at hF
        exact ⟨fn, hf, hF.1.1, by rw [hb]; rfl⟩
      · cases hF
    · cases hF
  · rw [if_neg hg] at h
    exact hC g vs H v H' h
end
end Go.Vm
/- Running is monotone and comes to one end; the rule of loops; a function's entry in a table, told by what holds of its end. -/
namespace Go.Vm
set_option linter.unusedVariables false
set_option linter.unusedSimpArgs false
section
variable {C : Tab}
theorem doOs_mono {κ κ' : Env → Mem → Prop} (h : ∀ e M, κ e M → κ' e M) : ∀ (l : List O) (e : Env) (M : Mem), doOs C l e M κ → doOs C l e M κ'
  | [], e, M, hk => h e M hk
  | x :: l, e, M, hk => by
    rcases gd_or x with ⟨t, b, y, rfl⟩ | hx
    · simp only [doOs] at hk ⊢
      exact ⟨hk.1, fun hb => ⟨(hk.2.1 hb).1, doOs_mono h l _ _ (hk.2.1 hb).2⟩, fun hb => doOs_mono h l _ _ (hk.2.2 hb)⟩
    · rw [doOs_ng hx] at hk ⊢
      exact ⟨hk.1, doOs_mono h l _ _ hk.2⟩
theorem doPs_mono {κ κ' : Env → Mem → Prop} (h : ∀ e M, κ e M → κ' e M) : ∀ (l : List PO) (i : Nat) (lg : List Lg) (e : Env) (M : Mem), doPs C i lg l e M κ → doPs C i lg l e M κ'
  | [], i, lg, e, M, hk => h e M hk
  | ⟨x, cf, kp⟩ :: l, i, lg, e, M, hk => by
    rcases gd_or x with ⟨t, b, y, rfl⟩ | hx
    · simp only [doPs] at hk ⊢
      exact ⟨hk.1, fun hb => ⟨(hk.2.1 hb).1, (hk.2.1 hb).2.1, doPs_mono h l _ _ _ _ (hk.2.1 hb).2.2⟩, fun hb => doPs_mono h l _ _ _ _ (hk.2.2 hb)⟩
    · rw [doPs_ng hx] at hk ⊢
      exact ⟨hk.1, hk.2.1, doPs_mono h l _ _ _ _ hk.2.2⟩
theorem exec_mono : ∀ (s : S) {κ κ' : Kont}, (∀ x e M, κ x e M → κ' x e M) → ∀ (e : Env) (M : Mem), exec C s e M κ → exec C s e M κ' := by
  intro s
  induction s with
  | k => exact fun h e M hk => h _ _ _ hk
  | o l => exact fun h e M hk => doOs_mono (fun e M => h .nx e M) l e M hk
  | p l => exact fun h e M hk => doPs_mono (fun e M => h .nx e M) l 0 [] e M hk
  | q a b iha ihb =>
    exact fun h e M hk => iha (fun x e M hx => by
      cases x with
      | nx => exact ihb h e M hx
      | ex id => exact h _ _ _ hx
      | rt => exact h _ _ _ hx) e M hk
  | i c a b iha ihb => exact fun h e M hk => ⟨hk.1, fun hc => iha h e M (hk.2.1 hc), fun hc => ihb h e M (hk.2.2 hc)⟩
  | b id s ih =>
    exact fun h e M hk => ih (fun x e M hx => by
      cases x with
      | nx => exact h _ _ _ hx
      | ex j =>
        simp only [kBlk] at hx ⊢
        by_cases hj : j = id
        · rw [if_pos hj] at hx ⊢; exact h _ _ _ hx
        · rw [if_neg hj] at hx ⊢; exact h _ _ _ hx
      | rt => exact h _ _ _ hx) e M hk
  | l live s ih =>
    intro κ κ' h e M hk
    obtain ⟨n, hn⟩ := hk
    refine ⟨n, ?_⟩
    induction n generalizing e M with
    | zero => exact hn
    | succ n ihn =>
      exact ih (fun x e M hx => by
        cases x with
        | nx => exact ihn e M hx
        | ex id => exact h _ _ _ hx
        | rt => exact h _ _ _ hx) _ _ hn
  | x id => exact fun h e M hk => h _ _ _ hk
  | r => exact fun h e M hk => h _ _ _ hk
theorem b_or {v : AV} (h : v.isB = true) (b : Bool) : v = .b b ∨ v = .b (!b) := by
  cases v <;> try exact absurd h Bool.false_ne_true
  rename_i x
  cases b <;> cases x <;> simp
theorem b_ne (b : Bool) : (AV.b b) ≠ .b (!b) := by cases b <;> simp
theorem g_or {v : AV} (h : v.isG = true) (b : Bool) : v = .b b ∨ offV b v := by
  rcases isG_or h with h | h
  · exact (b_or h b).imp id .inl
  · exact .inr (.inr h)
theorem on_off {v : AV} {b : Bool} (h : v = .b b) (h' : offV b v) : False := by
  rcases h' with h' | h'
  · exact b_ne b (h.symm.trans h')
  · rw [h] at h'; cases h'
theorem doOs_det {κ : Env → Mem → Prop} : ∀ (l : List O) (e : Env) (M : Mem), doOs C l e M κ → ∃ e' M', κ e' M' ∧ doOs C l e M fun e2 M2 => e2 = e' ∧ M2 = M'
  | [], e, M, hk => ⟨e, M, hk, rfl, rfl⟩
  | x :: l, e, M, hk => by
    rcases gd_or x with ⟨t, b, y, rfl⟩ | hx
    · simp only [doOs] at hk ⊢
      rcases g_or hk.1 b with hb | hb
      · obtain ⟨e', M', h1, h2⟩ := doOs_det l _ _ (hk.2.1 hb).2
        exact ⟨e', M', h1, hk.1, fun _ => ⟨(hk.2.1 hb).1, h2⟩, fun hb' => (on_off hb hb').elim⟩
      · obtain ⟨e', M', h1, h2⟩ := doOs_det l _ _ (hk.2.2 hb)
        exact ⟨e', M', h1, hk.1, fun hb' => (on_off hb' hb).elim, fun _ => h2⟩
    · rw [doOs_ng hx] at hk
      obtain ⟨e', M', h1, h2⟩ := doOs_det l _ _ hk.2
      exact ⟨e', M', h1, by rw [doOs_ng hx]; exact ⟨hk.1, h2⟩⟩
theorem doPs_det {κ : Env → Mem → Prop} : ∀ (l : List PO) (i : Nat) (lg : List Lg) (e : Env) (M : Mem), doPs C i lg l e M κ → ∃ e' M', κ e' M' ∧ doPs C i lg l e M fun e2 M2 => e2 = e' ∧ M2 = M'
  | [], i, lg, e, M, hk => ⟨e, M, hk, rfl, rfl⟩
  | ⟨x, cf, kp⟩ :: l, i, lg, e, M, hk => by
    rcases gd_or x with ⟨t, b, y, rfl⟩ | hx
    · simp only [doPs] at hk ⊢
      rcases g_or hk.1 b with hb | hb
      · obtain ⟨e', M', h1, h2⟩ := doPs_det l _ _ _ _ (hk.2.1 hb).2.2
        exact ⟨e', M', h1, hk.1, fun _ => ⟨(hk.2.1 hb).1, (hk.2.1 hb).2.1, h2⟩, fun hb' => (on_off hb hb').elim⟩
      · obtain ⟨e', M', h1, h2⟩ := doPs_det l _ _ _ _ (hk.2.2 hb)
        exact ⟨e', M', h1, hk.1, fun hb' => (on_off hb' hb).elim, fun _ => h2⟩
    · rw [doPs_ng hx] at hk
      obtain ⟨e', M', h1, h2⟩ := doPs_det l _ _ _ _ hk.2.2
      exact ⟨e', M', h1, by rw [doPs_ng hx]; exact ⟨hk.1, hk.2.1, h2⟩⟩
theorem exec_det : ∀ (s : S) {κ : Kont} (e : Env) (M : Mem), exec C s e M κ → ∃ x e' M', κ x e' M' ∧ exec C s e M fun x2 e2 M2 => x2 = x ∧ e2 = e' ∧ M2 = M' := by
  intro s
  induction s with
  | k => exact fun e M hk => ⟨.nx, e, M, hk, rfl, rfl, rfl⟩
  | o l =>
    intro κ e M hk
    obtain ⟨e', M', h1, h2⟩ := doOs_det l e M hk
    exact ⟨.nx, e', M', h1, doOs_mono (fun _ _ h => ⟨rfl, h⟩) l e M h2⟩
  | p l =>
    intro κ e M hk
    obtain ⟨e', M', h1, h2⟩ := doPs_det l 0 [] e M hk
    exact ⟨.nx, e', M', h1, doPs_mono (fun _ _ h => ⟨rfl, h⟩) l 0 [] e M h2⟩
  | q a b iha ihb =>
    intro κ e M hk
    obtain ⟨x, e1, M1, h1, h2⟩ := iha e M hk
    cases x with
    | nx =>
      obtain ⟨x2, e2, M2, g1, g2⟩ := ihb e1 M1 h1
      refine ⟨x2, e2, M2, g1, exec_mono a (fun x e M ⟨a1, a2, a3⟩ => ?_) e M h2⟩
      subst a1 a2 a3; exact g2
    | ex id =>
      refine ⟨.ex id, e1, M1, h1, exec_mono a (fun x e M ⟨a1, a2, a3⟩ => ?_) e M h2⟩
      subst a1 a2 a3; exact ⟨rfl, rfl, rfl⟩
    | rt =>
      refine ⟨.rt, e1, M1, h1, exec_mono a (fun x e M ⟨a1, a2, a3⟩ => ?_) e M h2⟩
      subst a1 a2 a3; exact ⟨rfl, rfl, rfl⟩
  | i c a b iha ihb =>
    intro κ e M hk
    rcases b_or hk.1 true with hb | hb
    · obtain ⟨x, e1, M1, h1, h2⟩ := iha e M (hk.2.1 hb)
      exact ⟨x, e1, M1, h1, hk.1, fun _ => h2, fun hb' => absurd (hb.symm.trans hb') (b_ne true)⟩
    · obtain ⟨x, e1, M1, h1, h2⟩ := ihb e M (hk.2.2 hb)
      exact ⟨x, e1, M1, h1, hk.1, fun hb' => absurd (hb'.symm.trans hb) (b_ne true), fun _ => h2⟩
  | b id s ih =>
    intro κ e M hk
    obtain ⟨x, e1, M1, h1, h2⟩ := ih e M hk
    cases x with
    | nx =>
      refine ⟨.nx, e1, M1, h1, exec_mono s (fun x e M ⟨a1, a2, a3⟩ => ?_) e M h2⟩
      subst a1 a2 a3; exact ⟨rfl, rfl, rfl⟩
    | ex j =>
      by_cases hj : j = id
      · simp only [kBlk, if_pos hj] at h1
        refine ⟨.nx, e1, M1, h1, exec_mono s (fun x e M ⟨a1, a2, a3⟩ => ?_) e M h2⟩
        subst a1 a2 a3
        simp only [kBlk, if_pos hj]; simp
      · simp only [kBlk, if_neg hj] at h1
        refine ⟨.ex j, e1, M1, h1, exec_mono s (fun x e M ⟨a1, a2, a3⟩ => ?_) e M h2⟩
        subst a1 a2 a3
        simp only [kBlk, if_neg hj]; simp
    | rt =>
      refine ⟨.rt, e1, M1, h1, exec_mono s (fun x e M ⟨a1, a2, a3⟩ => ?_) e M h2⟩
      subst a1 a2 a3; exact ⟨rfl, rfl, rfl⟩
  | l live s ih =>
    intro κ e M hk
    obtain ⟨n, hn⟩ := hk
    have : ∃ x e' M', κ x e' M' ∧ loopN (exec C s) live (fun x2 e2 M2 => x2 = x ∧ e2 = e' ∧ M2 = M') n e M := by
      induction n generalizing e M with
      | zero => exact hn.elim
      | succ n ihn =>
        obtain ⟨x, e1, M1, h1, h2⟩ := ih _ _ hn
        cases x with
        | nx =>
          obtain ⟨x2, e2, M2, g1, g2⟩ := ihn e1 M1 h1
          refine ⟨x2, e2, M2, g1, exec_mono s (fun x e M ⟨a1, a2, a3⟩ => ?_) _ _ h2⟩
          subst a1 a2 a3; exact g2
        | ex id =>
          refine ⟨.ex id, e1, M1, h1, exec_mono s (fun x e M ⟨a1, a2, a3⟩ => ?_) _ _ h2⟩
          subst a1 a2 a3; exact ⟨rfl, rfl, rfl⟩
        | rt =>
          refine ⟨.rt, e1, M1, h1, exec_mono s (fun x e M ⟨a1, a2, a3⟩ => ?_) _ _ h2⟩
          subst a1 a2 a3; exact ⟨rfl, rfl, rfl⟩
    obtain ⟨x, e', M', h1, h2⟩ := this
    exact ⟨x, e', M', h1, n, h2⟩
  | x id => exact fun e M hk => ⟨.ex id, e, M, hk, rfl, rfl, rfl⟩
  | r => exact fun e M hk => ⟨.rt, e, M, hk, rfl, rfl, rfl⟩
/-- A loop: I n: at most n rounds more. -/
theorem exec_loop {live : List Nat} {s : S} {κ : Kont} (I : Nat → Env → Mem → Prop) (hs : ∀ n e M, I n e M → exec C s (keepE e live) (M.keep live) (kSeq (fun e' M' _ => ∃ m, m < n ∧ I m e' M') κ)) : ∀ {n : Nat} {e : Env} {M : Mem}, I n e M → exec C (.l live s) e M κ := by
  intro n
  induction n using Nat.strongRecOn with
  | ind n ih =>
    intro e M hI
    obtain ⟨x, e1, M1, h1, h2⟩ := exec_det s _ _ (hs n e M hI)
    cases x with
    | nx =>
      obtain ⟨m, hm, hI'⟩ := h1
      obtain ⟨k, hk⟩ := ih m hm hI'
      refine ⟨k + 1, exec_mono s (fun x e M ⟨a1, a2, a3⟩ => ?_) _ _ h2⟩
      subst a1 a2 a3; exact hk
    | ex id =>
      refine ⟨1, exec_mono s (fun x e M ⟨a1, a2, a3⟩ => ?_) _ _ h2⟩
      subst a1 a2 a3; exact h1
    | rt =>
      refine ⟨1, exec_mono s (fun x e M ⟨a1, a2, a3⟩ => ?_) _ _ h2⟩
      subst a1 a2 a3; exact h1
theorem doOs_and {κ κ' : Env → Mem → Prop} : ∀ (l : List O) (e : Env) (M : Mem), doOs C l e M κ → doOs C l e M κ' → ∃ e' M', κ e' M' ∧ κ' e' M'
  | [], e, M, h, h' => ⟨e, M, h, h'⟩
  | x :: l, e, M, h, h' => by
    rcases gd_or x with ⟨t, b, y, rfl⟩ | hx
    · simp only [doOs] at h h'
      rcases g_or h.1 b with hb | hb
      · exact doOs_and l _ _ (h.2.1 hb).2 (h'.2.1 hb).2
      · exact doOs_and l _ _ (h.2.2 hb) (h'.2.2 hb)
    · rw [doOs_ng hx] at h h'
      exact doOs_and l _ _ h.2 h'.2
theorem doPs_and {κ κ' : Env → Mem → Prop} : ∀ (l : List PO) (i : Nat) (lg : List Lg) (e : Env) (M : Mem), doPs C i lg l e M κ → doPs C i lg l e M κ' → ∃ e' M', κ e' M' ∧ κ' e' M'
  | [], i, lg, e, M, h, h' => ⟨e, M, h, h'⟩
  | ⟨x, cf, kp⟩ :: l, i, lg, e, M, h, h' => by
    rcases gd_or x with ⟨t, b, y, rfl⟩ | hx
    · simp only [doPs] at h h'
      rcases g_or h.1 b with hb | hb
      · exact doPs_and l _ _ _ _ (h.2.1 hb).2.2 (h'.2.1 hb).2.2
      · exact doPs_and l _ _ _ _ (h.2.2 hb) (h'.2.2 hb)
    · rw [doPs_ng hx] at h h'
      exact doPs_and l _ _ _ _ h.2.2 h'.2.2
theorem exec_and : ∀ (s : S) {κ κ' : Kont} (e : Env) (M : Mem), exec C s e M κ → exec C s e M κ' → ∃ x e' M', κ x e' M' ∧ κ' x e' M' := by
  intro s
  induction s with
  | k => exact fun e M h h' => ⟨_, _, _, h, h'⟩
  | o l => exact fun e M h h' => ⟨.nx, doOs_and l e M h h'⟩
  | p l => exact fun e M h h' => ⟨.nx, doPs_and l 0 [] e M h h'⟩
  | q a b iha ihb =>
    intro κ κ' e M h h'
    obtain ⟨x, e1, M1, h1, h2⟩ := iha e M h h'
    cases x with
    | nx => exact ihb e1 M1 h1 h2
    | ex id => exact ⟨_, _, _, h1, h2⟩
    | rt => exact ⟨_, _, _, h1, h2⟩
  | i c a b iha ihb =>
    intro κ κ' e M h h'
    rcases b_or h.1 true with hb | hb
    · exact iha e M (h.2.1 hb) (h'.2.1 hb)
    · exact ihb e M (h.2.2 hb) (h'.2.2 hb)
  | b id s ih =>
    intro κ κ' e M h h'
    obtain ⟨x, e1, M1, h1, h2⟩ := ih e M h h'
    cases x with
    | nx => exact ⟨_, _, _, h1, h2⟩
    | ex j =>
      simp only [kBlk] at h1 h2
      by_cases hj : j = id
      · rw [if_pos hj] at h1 h2; exact ⟨_, _, _, h1, h2⟩
      · rw [if_neg hj] at h1 h2; exact ⟨_, _, _, h1, h2⟩
    | rt => exact ⟨_, _, _, h1, h2⟩
  | l live s ih =>
    intro κ κ' e M h h'
    obtain ⟨n, hn⟩ := h
    obtain ⟨m, hm⟩ := h'
    induction n generalizing e M m with
    | zero => exact hn.elim
    | succ n ihn =>
      cases m with
      | zero => exact hm.elim
      | succ m =>
        obtain ⟨x, e1, M1, h1, h2⟩ := ih _ _ hn hm
        cases x with
        | nx => exact ihn e1 M1 h1 m h2
        | ex id => exact ⟨_, _, _, h1, h2⟩
        | rt => exact ⟨_, _, _, h1, h2⟩
  | x id => exact fun e M h h' => ⟨_, _, _, h, h'⟩
  | r => exact fun e M h h' => ⟨_, _, _, h, h'⟩
/-! Entries. -/
/-- What is shown of a function's run. -/
def endK (rs : List Rs) (G : AV → AH → Prop) : Kont := fun x e M => (match x with | .ex _ => False | _ => True) ∧ rsC e M rs ∧ G (resV (rsV e M rs)) M.h
def Runs (C : Tab) (F : Fn) (vs : List AV) (H : AH) (G : AV → AH → Prop) : Prop := exec C F.s (args 0 vs) ⟨[], 0, H⟩ (endK F.rs G)
theorem Runs.mono {F : Fn} {vs : List AV} {H : AH} {G G' : AV → AH → Prop} (h : Runs C F vs H G) (hg : ∀ v H', G v H' → G' v H') : Runs C F vs H G' :=
  exec_mono _ (fun _ _ _ hk => ⟨hk.1, hk.2.1, hg _ _ hk.2.2⟩) _ _ h
theorem Runs.ex {F : Fn} {vs : List AV} {H : AH} {G : AV → AH → Prop} (h : Runs C F vs H G) : ∃ r : AV × AH, Runs C F vs H (fun v H' => v = r.1 ∧ H' = r.2) := by
  obtain ⟨x, e', M', ⟨h1, h2, h3⟩, h5⟩ := exec_det _ _ _ h
  refine ⟨(resV (rsV e' M' F.rs), M'.h), exec_mono _ (fun x e M ⟨a1, a2, a3⟩ => ?_) _ _ h5⟩
  subst a1 a2 a3
  exact ⟨h1, h2, rfl, rfl⟩
open Classical in
/-- The entry: what the run comes to, where it comes to an end. -/
noncomputable def ent (C : Tab) (F : Fn) (vs : List AV) (H : AH) : Option (AV × AH) :=
  if h : ∃ r : AV × AH, Runs C F vs H (fun v H' => v = r.1 ∧ H' = r.2) then some h.choose else none
theorem ent_ok {P : Program} {F : Fn} {f : Nat} (hC : TabOK P C) (hmx : P.follows .mixedOrders = true) (hF : chkF P F f = true) : TabOK P (ext C f (ent C F)) :=
  hC.ext hmx hF fun vs H v H' h => by
    unfold ent at h
    split at h
    · rename_i hx
      have he := Option.some.inj h
      have h2 := hx.choose_spec
      rw [he] at h2
      exact exec_mono _ (fun x e M hk => ⟨hk.1, hk.2.1, .inl hk.2.2⟩) _ _ h2
    · cases h
theorem ent_spec {F : Fn} {f : Nat} {G : AV → AH → Prop} {vs : List AV} {H : AH} (h : Runs C F vs H G) : ∃ v H', ext C f (ent C F) f vs H = some (v, H') ∧ G v H' := by
  have hx := h.ex
  refine ⟨hx.choose.1, hx.choose.2, ?_, ?_⟩
  · unfold Vm.ext ent
    rw [if_pos rfl, dif_pos hx]
  · obtain ⟨x, e, M, h1, h2⟩ := exec_and _ _ _ h hx.choose_spec
    rw [← h2.2.2.1, ← h2.2.2.2]; exact h1.2.2
end
end Go.Vm
/- Plain laws that runs use: numbers, rows of bytes. -/
namespace Go.Vm
set_option linter.unusedVariables false
set_option linter.unusedSimpArgs false
theorem take_rep_set {α : Type} {l : List α} {i : Nat} {z d : α} (h : i < l.length) : (l.take i ++ List.replicate (l.length - i) z).set i (l.getD i d) = l.take (i + 1) ++ List.replicate (l.length - (i + 1)) z := by
  have e1 : (l.take i).length = i := by simp; omega
  rw [List.set_append_right _ _ (by omega), e1, Nat.sub_self, show l.length - i = (l.length - (i + 1)) + 1 by omega, List.replicate_succ, List.set_cons_zero]
  have e3 : l.getD i d = l[i] := by simp [List.getD, List.getElem?_eq_getElem h]
  rw [e3, ← List.take_append_getElem h, List.append_assoc]
  rfl
theorem o_b (x : Bool) : AV.outs (.b x) = true := rfl
theorem q_b (x : Bool) : AV.cells (.b x) = [(.b x)] := rfl
theorem o_i (k : IntKind) (n : Int) : AV.outs (.i k n) = true := rfl
theorem q_i (k : IntKind) (n : Int) : AV.cells (.i k n) = [(.i k n)] := rfl
theorem o_s (l : List UInt8) : AV.outs (.s l) = true := rfl
theorem q_s (l : List UInt8) : AV.cells (.s l) = [(.s l)] := rfl
theorem o_np  : AV.outs .np = true := rfl
theorem q_np  : AV.cells .np = [.np] := rfl
theorem o_pv (i o : Nat) : AV.outs (.pv i o) = true := rfl
theorem q_pv (i o : Nat) : AV.cells (.pv i o) = [(.pv i o)] := rfl
theorem o_pe (i x o e : Nat) : AV.outs (.pe i x o e) = true := rfl
theorem q_pe (i x o e : Nat) : AV.cells (.pe i x o e) = [(.pe i x o e)] := rfl
theorem o_ns  : AV.outs .ns = true := rfl
theorem q_ns  : AV.cells .ns = [.ns] := rfl
theorem o_sl (i x n : Nat) : AV.outs (.sl i x n) = true := rfl
theorem q_sl (i x n : Nat) : AV.cells (.sl i x n) = [(.sl i x n)] := rfl
theorem o_nm  : AV.outs .nm = true := rfl
theorem q_nm  : AV.cells .nm = [.nm] := rfl
theorem o_mp (i : Nat) : AV.outs (.mp i) = true := rfl
theorem q_mp (i : Nat) : AV.cells (.mp i) = [(.mp i)] := rfl
theorem o_nf  : AV.outs .nf = true := rfl
theorem q_nf  : AV.cells .nf = [.nf] := rfl
theorem o_fn (f : FuncId) (c : List AV) : AV.outs (.fn f c) = true := rfl
theorem q_fn (f : FuncId) (c : List AV) : AV.cells (.fn f c) = [(.fn f c)] := rfl
theorem o_ag (xs : List AV) : AV.outs (.ag xs) = true := rfl
theorem q_ag (xs : List AV) : AV.cells (.ag xs) = xs := rfl
section
variable {C : Tab}
theorem x_k {e : Env} {M : Mem} {κ : Kont} : exec C .k e M κ = κ .nx e M := rfl
theorem x_o {l : List O} {e : Env} {M : Mem} {κ : Kont} : exec C (.o l) e M κ = doOs C l e M (kOps κ) := rfl
theorem x_p {l : List PO} {e : Env} {M : Mem} {κ : Kont} : exec C (.p l) e M κ = doPs C 0 [] l e M (kOps κ) := rfl
theorem x_q {a b : S} {e : Env} {M : Mem} {κ : Kont} : exec C (.q a b) e M κ = exec C a e M (kSeq (exec C b) κ) := rfl
theorem x_i {c : Opd} {a b : S} {e : Env} {M : Mem} {κ : Kont} : exec C (.i c a b) e M κ = ((evT e c).isB = true ∧ (evT e c = .b true → exec C a e M κ) ∧ (evT e c = .b false → exec C b e M κ)) := rfl
theorem x_it {c : Opd} {a b : S} {e : Env} {M : Mem} {κ : Kont} (h : evT e c = .b true) : exec C (.i c a b) e M κ = exec C a e M κ := by rw [x_i, h]; simp [AV.isB]
theorem x_if {c : Opd} {a b : S} {e : Env} {M : Mem} {κ : Kont} (h : evT e c = .b false) : exec C (.i c a b) e M κ = exec C b e M κ := by rw [x_i, h]; simp [AV.isB]
theorem d_nil {e : Env} {M : Mem} {κ : Env → Mem → Prop} : doOs C [] e M κ = κ e M := rfl
theorem d_on {t : Nat} {b : Bool} {o : O} {l : List O} {e : Env} {M : Mem} {κ : Env → Mem → Prop} (h : look e t = .b b) : doOs C (.gd t b o :: l) e M κ = (okO C e M o ∧ doOs C l (putE (dsO o) (vlO C e M o) e) (mmO C e M o) κ) := by
  simp only [doOs, h]
  cases b <;> simp [AV.isG, offV]
theorem d_off {t : Nat} {b : Bool} {o : O} {l : List O} {e : Env} {M : Mem} {κ : Env → Mem → Prop} (h : look e t = .b (!b)) : doOs C (.gd t b o :: l) e M κ = doOs C l (putE (dsO o) (.tp []) e) M κ := by
  simp only [doOs, h]
  cases b <;> simp [AV.isG, offV]
theorem d_un0 {t : Nat} {b : Bool} {o : O} {l : List O} {e : Env} {M : Mem} {κ : Env → Mem → Prop} (h : look e t = .tp []) : doOs C (.gd t b o :: l) e M κ = doOs C l (putE (dsO o) (.tp []) e) M κ := by
  simp only [doOs, h]
  simp [AV.isG, offV]
theorem p_un0 {t : Nat} {b : Bool} {o : O} {i : Nat} {lg : List Lg} {cf : List Nat} {kp : Bool} {l : List PO} {e : Env} {M : Mem} {κ : Env → Mem → Prop} (h : look e t = .tp []) : doPs C i lg (⟨.gd t b o, cf, kp⟩ :: l) e M κ = doPs C (i + 1) lg l (putE (dsO o) (.tp []) e) M κ := by
  simp only [doPs, h]
  simp [AV.isG, offV]
theorem p_nil {i : Nat} {lg : List Lg} {e : Env} {M : Mem} {κ : Env → Mem → Prop} : doPs C i lg [] e M κ = κ e M := rfl
theorem p_on {t : Nat} {b : Bool} {o : O} {i : Nat} {lg : List Lg} {cf : List Nat} {kp : Bool} {l : List PO} {e : Env} {M : Mem} {κ : Env → Mem → Prop} (h : look e t = .b b) :
    doPs C i lg (⟨.gd t b o, cf, kp⟩ :: l) e M κ = (okO C e M o ∧ cfC C lg o e M cf ∧ doPs C (i + 1) (lgPut kp i o e M lg) l (putE (dsO o) (vlO C e M o) e) (mmO C e M o) κ) := by
  simp only [doPs, h]
  cases b <;> simp [AV.isG, offV]
theorem p_off {t : Nat} {b : Bool} {o : O} {i : Nat} {lg : List Lg} {cf : List Nat} {kp : Bool} {l : List PO} {e : Env} {M : Mem} {κ : Env → Mem → Prop} (h : look e t = .b (!b)) : doPs C i lg (⟨.gd t b o, cf, kp⟩ :: l) e M κ = doPs C (i + 1) lg l (putE (dsO o) (.tp []) e) M κ := by
  simp only [doPs, h]
  cases b <;> simp [AV.isG, offV]
theorem d_mv {l : List O} {e : Env} {M : Mem} {κ : Env → Mem → Prop} (v1 : Nat) (v2 : Opd) : doOs C (.mv v1 v2 :: l) e M κ = (okO C e M (.mv v1 v2) ∧ doOs C l (putE (dsO (.mv v1 v2)) (vlO C e M (.mv v1 v2)) e) (mmO C e M (.mv v1 v2)) κ) := doOs_ng rfl
theorem p_mv {i : Nat} {lg : List Lg} {cf : List Nat} {kp : Bool} {l : List PO} {e : Env} {M : Mem} {κ : Env → Mem → Prop} (v1 : Nat) (v2 : Opd) : doPs C i lg (⟨.mv v1 v2, cf, kp⟩ :: l) e M κ = (okO C e M (.mv v1 v2) ∧ cfC C lg (.mv v1 v2) e M cf ∧ doPs C (i + 1) (lgPut kp i (.mv v1 v2) e M lg) l (putE (dsO (.mv v1 v2)) (vlO C e M (.mv v1 v2)) e) (mmO C e M (.mv v1 v2)) κ) := doPs_ng rfl
theorem d_pk {l : List O} {e : Env} {M : Mem} {κ : Env → Mem → Prop} (v1 : Nat) (v2 : Opd) (v3 : Opd) (v4 : Opd) : doOs C (.pk v1 v2 v3 v4 :: l) e M κ = (okO C e M (.pk v1 v2 v3 v4) ∧ doOs C l (putE (dsO (.pk v1 v2 v3 v4)) (vlO C e M (.pk v1 v2 v3 v4)) e) (mmO C e M (.pk v1 v2 v3 v4)) κ) := doOs_ng rfl
theorem p_pk {i : Nat} {lg : List Lg} {cf : List Nat} {kp : Bool} {l : List PO} {e : Env} {M : Mem} {κ : Env → Mem → Prop} (v1 : Nat) (v2 : Opd) (v3 : Opd) (v4 : Opd) : doPs C i lg (⟨.pk v1 v2 v3 v4, cf, kp⟩ :: l) e M κ = (okO C e M (.pk v1 v2 v3 v4) ∧ cfC C lg (.pk v1 v2 v3 v4) e M cf ∧ doPs C (i + 1) (lgPut kp i (.pk v1 v2 v3 v4) e M lg) l (putE (dsO (.pk v1 v2 v3 v4)) (vlO C e M (.pk v1 v2 v3 v4)) e) (mmO C e M (.pk v1 v2 v3 v4)) κ) := doPs_ng rfl
theorem d_bn {l : List O} {e : Env} {M : Mem} {κ : Env → Mem → Prop} (v1 : Nat) (v2 : BinOp) (v3 : Opd) (v4 : Opd) : doOs C (.bn v1 v2 v3 v4 :: l) e M κ = (okO C e M (.bn v1 v2 v3 v4) ∧ doOs C l (putE (dsO (.bn v1 v2 v3 v4)) (vlO C e M (.bn v1 v2 v3 v4)) e) (mmO C e M (.bn v1 v2 v3 v4)) κ) := doOs_ng rfl
theorem p_bn {i : Nat} {lg : List Lg} {cf : List Nat} {kp : Bool} {l : List PO} {e : Env} {M : Mem} {κ : Env → Mem → Prop} (v1 : Nat) (v2 : BinOp) (v3 : Opd) (v4 : Opd) : doPs C i lg (⟨.bn v1 v2 v3 v4, cf, kp⟩ :: l) e M κ = (okO C e M (.bn v1 v2 v3 v4) ∧ cfC C lg (.bn v1 v2 v3 v4) e M cf ∧ doPs C (i + 1) (lgPut kp i (.bn v1 v2 v3 v4) e M lg) l (putE (dsO (.bn v1 v2 v3 v4)) (vlO C e M (.bn v1 v2 v3 v4)) e) (mmO C e M (.bn v1 v2 v3 v4)) κ) := doPs_ng rfl
theorem d_un {l : List O} {e : Env} {M : Mem} {κ : Env → Mem → Prop} (v1 : Nat) (v2 : UnOp) (v3 : Opd) : doOs C (.un v1 v2 v3 :: l) e M κ = (okO C e M (.un v1 v2 v3) ∧ doOs C l (putE (dsO (.un v1 v2 v3)) (vlO C e M (.un v1 v2 v3)) e) (mmO C e M (.un v1 v2 v3)) κ) := doOs_ng rfl
theorem p_un {i : Nat} {lg : List Lg} {cf : List Nat} {kp : Bool} {l : List PO} {e : Env} {M : Mem} {κ : Env → Mem → Prop} (v1 : Nat) (v2 : UnOp) (v3 : Opd) : doPs C i lg (⟨.un v1 v2 v3, cf, kp⟩ :: l) e M κ = (okO C e M (.un v1 v2 v3) ∧ cfC C lg (.un v1 v2 v3) e M cf ∧ doPs C (i + 1) (lgPut kp i (.un v1 v2 v3) e M lg) l (putE (dsO (.un v1 v2 v3)) (vlO C e M (.un v1 v2 v3)) e) (mmO C e M (.un v1 v2 v3)) κ) := doPs_ng rfl
theorem d_be {l : List O} {e : Env} {M : Mem} {κ : Env → Mem → Prop} (v1 : Nat) (v2 : Bool) (v3 : Opd) (v4 : Opd) : doOs C (.be v1 v2 v3 v4 :: l) e M κ = (okO C e M (.be v1 v2 v3 v4) ∧ doOs C l (putE (dsO (.be v1 v2 v3 v4)) (vlO C e M (.be v1 v2 v3 v4)) e) (mmO C e M (.be v1 v2 v3 v4)) κ) := doOs_ng rfl
theorem p_be {i : Nat} {lg : List Lg} {cf : List Nat} {kp : Bool} {l : List PO} {e : Env} {M : Mem} {κ : Env → Mem → Prop} (v1 : Nat) (v2 : Bool) (v3 : Opd) (v4 : Opd) : doPs C i lg (⟨.be v1 v2 v3 v4, cf, kp⟩ :: l) e M κ = (okO C e M (.be v1 v2 v3 v4) ∧ cfC C lg (.be v1 v2 v3 v4) e M cf ∧ doPs C (i + 1) (lgPut kp i (.be v1 v2 v3 v4) e M lg) l (putE (dsO (.be v1 v2 v3 v4)) (vlO C e M (.be v1 v2 v3 v4)) e) (mmO C e M (.be v1 v2 v3 v4)) κ) := doPs_ng rfl
theorem d_nl {l : List O} {e : Env} {M : Mem} {κ : Env → Mem → Prop} (v1 : Nat) (v2 : Nat) (v3 : Bool) (v4 : Opd) : doOs C (.nl v1 v2 v3 v4 :: l) e M κ = (okO C e M (.nl v1 v2 v3 v4) ∧ doOs C l (putE (dsO (.nl v1 v2 v3 v4)) (vlO C e M (.nl v1 v2 v3 v4)) e) (mmO C e M (.nl v1 v2 v3 v4)) κ) := doOs_ng rfl
theorem p_nl {i : Nat} {lg : List Lg} {cf : List Nat} {kp : Bool} {l : List PO} {e : Env} {M : Mem} {κ : Env → Mem → Prop} (v1 : Nat) (v2 : Nat) (v3 : Bool) (v4 : Opd) : doPs C i lg (⟨.nl v1 v2 v3 v4, cf, kp⟩ :: l) e M κ = (okO C e M (.nl v1 v2 v3 v4) ∧ cfC C lg (.nl v1 v2 v3 v4) e M cf ∧ doPs C (i + 1) (lgPut kp i (.nl v1 v2 v3 v4) e M lg) l (putE (dsO (.nl v1 v2 v3 v4)) (vlO C e M (.nl v1 v2 v3 v4)) e) (mmO C e M (.nl v1 v2 v3 v4)) κ) := doPs_ng rfl
theorem d_eqa {l : List O} {e : Env} {M : Mem} {κ : Env → Mem → Prop} (v1 : Nat) (v2 : Bool) (v3 : List Ck) (v4 : Opd) (v5 : Opd) : doOs C (.eqa v1 v2 v3 v4 v5 :: l) e M κ = (okO C e M (.eqa v1 v2 v3 v4 v5) ∧ doOs C l (putE (dsO (.eqa v1 v2 v3 v4 v5)) (vlO C e M (.eqa v1 v2 v3 v4 v5)) e) (mmO C e M (.eqa v1 v2 v3 v4 v5)) κ) := doOs_ng rfl
theorem p_eqa {i : Nat} {lg : List Lg} {cf : List Nat} {kp : Bool} {l : List PO} {e : Env} {M : Mem} {κ : Env → Mem → Prop} (v1 : Nat) (v2 : Bool) (v3 : List Ck) (v4 : Opd) (v5 : Opd) : doPs C i lg (⟨.eqa v1 v2 v3 v4 v5, cf, kp⟩ :: l) e M κ = (okO C e M (.eqa v1 v2 v3 v4 v5) ∧ cfC C lg (.eqa v1 v2 v3 v4 v5) e M cf ∧ doPs C (i + 1) (lgPut kp i (.eqa v1 v2 v3 v4 v5) e M lg) l (putE (dsO (.eqa v1 v2 v3 v4 v5)) (vlO C e M (.eqa v1 v2 v3 v4 v5)) e) (mmO C e M (.eqa v1 v2 v3 v4 v5)) κ) := doPs_ng rfl
theorem d_ci {l : List O} {e : Env} {M : Mem} {κ : Env → Mem → Prop} (v1 : Nat) (v2 : IntKind) (v3 : Opd) : doOs C (.ci v1 v2 v3 :: l) e M κ = (okO C e M (.ci v1 v2 v3) ∧ doOs C l (putE (dsO (.ci v1 v2 v3)) (vlO C e M (.ci v1 v2 v3)) e) (mmO C e M (.ci v1 v2 v3)) κ) := doOs_ng rfl
theorem p_ci {i : Nat} {lg : List Lg} {cf : List Nat} {kp : Bool} {l : List PO} {e : Env} {M : Mem} {κ : Env → Mem → Prop} (v1 : Nat) (v2 : IntKind) (v3 : Opd) : doPs C i lg (⟨.ci v1 v2 v3, cf, kp⟩ :: l) e M κ = (okO C e M (.ci v1 v2 v3) ∧ cfC C lg (.ci v1 v2 v3) e M cf ∧ doPs C (i + 1) (lgPut kp i (.ci v1 v2 v3) e M lg) l (putE (dsO (.ci v1 v2 v3)) (vlO C e M (.ci v1 v2 v3)) e) (mmO C e M (.ci v1 v2 v3)) κ) := doPs_ng rfl
theorem d_cbs {l : List O} {e : Env} {M : Mem} {κ : Env → Mem → Prop} (v1 : Nat) (v2 : Opd) : doOs C (.cbs v1 v2 :: l) e M κ = (okO C e M (.cbs v1 v2) ∧ doOs C l (putE (dsO (.cbs v1 v2)) (vlO C e M (.cbs v1 v2)) e) (mmO C e M (.cbs v1 v2)) κ) := doOs_ng rfl
theorem p_cbs {i : Nat} {lg : List Lg} {cf : List Nat} {kp : Bool} {l : List PO} {e : Env} {M : Mem} {κ : Env → Mem → Prop} (v1 : Nat) (v2 : Opd) : doPs C i lg (⟨.cbs v1 v2, cf, kp⟩ :: l) e M κ = (okO C e M (.cbs v1 v2) ∧ cfC C lg (.cbs v1 v2) e M cf ∧ doPs C (i + 1) (lgPut kp i (.cbs v1 v2) e M lg) l (putE (dsO (.cbs v1 v2)) (vlO C e M (.cbs v1 v2)) e) (mmO C e M (.cbs v1 v2)) κ) := doPs_ng rfl
theorem d_csb {l : List O} {e : Env} {M : Mem} {κ : Env → Mem → Prop} (v1 : Nat) (v2 : Opd) : doOs C (.csb v1 v2 :: l) e M κ = (okO C e M (.csb v1 v2) ∧ doOs C l (putE (dsO (.csb v1 v2)) (vlO C e M (.csb v1 v2)) e) (mmO C e M (.csb v1 v2)) κ) := doOs_ng rfl
theorem p_csb {i : Nat} {lg : List Lg} {cf : List Nat} {kp : Bool} {l : List PO} {e : Env} {M : Mem} {κ : Env → Mem → Prop} (v1 : Nat) (v2 : Opd) : doPs C i lg (⟨.csb v1 v2, cf, kp⟩ :: l) e M κ = (okO C e M (.csb v1 v2) ∧ cfC C lg (.csb v1 v2) e M cf ∧ doPs C (i + 1) (lgPut kp i (.csb v1 v2) e M lg) l (putE (dsO (.csb v1 v2)) (vlO C e M (.csb v1 v2)) e) (mmO C e M (.csb v1 v2)) κ) := doPs_ng rfl
theorem d_ex {l : List O} {e : Env} {M : Mem} {κ : Env → Mem → Prop} (v1 : Nat) (v2 : Opd) (v3 : Nat) : doOs C (.ex v1 v2 v3 :: l) e M κ = (okO C e M (.ex v1 v2 v3) ∧ doOs C l (putE (dsO (.ex v1 v2 v3)) (vlO C e M (.ex v1 v2 v3)) e) (mmO C e M (.ex v1 v2 v3)) κ) := doOs_ng rfl
theorem p_ex {i : Nat} {lg : List Lg} {cf : List Nat} {kp : Bool} {l : List PO} {e : Env} {M : Mem} {κ : Env → Mem → Prop} (v1 : Nat) (v2 : Opd) (v3 : Nat) : doPs C i lg (⟨.ex v1 v2 v3, cf, kp⟩ :: l) e M κ = (okO C e M (.ex v1 v2 v3) ∧ cfC C lg (.ex v1 v2 v3) e M cf ∧ doPs C (i + 1) (lgPut kp i (.ex v1 v2 v3) e M lg) l (putE (dsO (.ex v1 v2 v3)) (vlO C e M (.ex v1 v2 v3)) e) (mmO C e M (.ex v1 v2 v3)) κ) := doPs_ng rfl
theorem d_bd {l : List O} {e : Env} {M : Mem} {κ : Env → Mem → Prop} (v1 : Nat) (v2 : List AV) (v3 : List (Nat × Nat × Opd)) : doOs C (.bd v1 v2 v3 :: l) e M κ = (okO C e M (.bd v1 v2 v3) ∧ doOs C l (putE (dsO (.bd v1 v2 v3)) (vlO C e M (.bd v1 v2 v3)) e) (mmO C e M (.bd v1 v2 v3)) κ) := doOs_ng rfl
theorem p_bd {i : Nat} {lg : List Lg} {cf : List Nat} {kp : Bool} {l : List PO} {e : Env} {M : Mem} {κ : Env → Mem → Prop} (v1 : Nat) (v2 : List AV) (v3 : List (Nat × Nat × Opd)) : doPs C i lg (⟨.bd v1 v2 v3, cf, kp⟩ :: l) e M κ = (okO C e M (.bd v1 v2 v3) ∧ cfC C lg (.bd v1 v2 v3) e M cf ∧ doPs C (i + 1) (lgPut kp i (.bd v1 v2 v3) e M lg) l (putE (dsO (.bd v1 v2 v3)) (vlO C e M (.bd v1 v2 v3)) e) (mmO C e M (.bd v1 v2 v3)) κ) := doPs_ng rfl
theorem d_fd {l : List O} {e : Env} {M : Mem} {κ : Env → Mem → Prop} (v1 : Nat) (v2 : Opd) (v3 : Nat) (v4 : Option Nat) : doOs C (.fd v1 v2 v3 v4 :: l) e M κ = (okO C e M (.fd v1 v2 v3 v4) ∧ doOs C l (putE (dsO (.fd v1 v2 v3 v4)) (vlO C e M (.fd v1 v2 v3 v4)) e) (mmO C e M (.fd v1 v2 v3 v4)) κ) := doOs_ng rfl
theorem p_fd {i : Nat} {lg : List Lg} {cf : List Nat} {kp : Bool} {l : List PO} {e : Env} {M : Mem} {κ : Env → Mem → Prop} (v1 : Nat) (v2 : Opd) (v3 : Nat) (v4 : Option Nat) : doPs C i lg (⟨.fd v1 v2 v3 v4, cf, kp⟩ :: l) e M κ = (okO C e M (.fd v1 v2 v3 v4) ∧ cfC C lg (.fd v1 v2 v3 v4) e M cf ∧ doPs C (i + 1) (lgPut kp i (.fd v1 v2 v3 v4) e M lg) l (putE (dsO (.fd v1 v2 v3 v4)) (vlO C e M (.fd v1 v2 v3 v4)) e) (mmO C e M (.fd v1 v2 v3 v4)) κ) := doPs_ng rfl
theorem d_ix {l : List O} {e : Env} {M : Mem} {κ : Env → Mem → Prop} (v1 : Nat) (v2 : Opd) (v3 : Opd) : doOs C (.ix v1 v2 v3 :: l) e M κ = (okO C e M (.ix v1 v2 v3) ∧ doOs C l (putE (dsO (.ix v1 v2 v3)) (vlO C e M (.ix v1 v2 v3)) e) (mmO C e M (.ix v1 v2 v3)) κ) := doOs_ng rfl
theorem p_ix {i : Nat} {lg : List Lg} {cf : List Nat} {kp : Bool} {l : List PO} {e : Env} {M : Mem} {κ : Env → Mem → Prop} (v1 : Nat) (v2 : Opd) (v3 : Opd) : doPs C i lg (⟨.ix v1 v2 v3, cf, kp⟩ :: l) e M κ = (okO C e M (.ix v1 v2 v3) ∧ cfC C lg (.ix v1 v2 v3) e M cf ∧ doPs C (i + 1) (lgPut kp i (.ix v1 v2 v3) e M lg) l (putE (dsO (.ix v1 v2 v3)) (vlO C e M (.ix v1 v2 v3)) e) (mmO C e M (.ix v1 v2 v3)) κ) := doPs_ng rfl
theorem d_ixa {l : List O} {e : Env} {M : Mem} {κ : Env → Mem → Prop} (v1 : Nat) (v2 : Opd) (v3 : Opd) (v4 : Nat) (v5 : Nat) (v6 : Option Nat) : doOs C (.ixa v1 v2 v3 v4 v5 v6 :: l) e M κ = (okO C e M (.ixa v1 v2 v3 v4 v5 v6) ∧ doOs C l (putE (dsO (.ixa v1 v2 v3 v4 v5 v6)) (vlO C e M (.ixa v1 v2 v3 v4 v5 v6)) e) (mmO C e M (.ixa v1 v2 v3 v4 v5 v6)) κ) := doOs_ng rfl
theorem p_ixa {i : Nat} {lg : List Lg} {cf : List Nat} {kp : Bool} {l : List PO} {e : Env} {M : Mem} {κ : Env → Mem → Prop} (v1 : Nat) (v2 : Opd) (v3 : Opd) (v4 : Nat) (v5 : Nat) (v6 : Option Nat) : doPs C i lg (⟨.ixa v1 v2 v3 v4 v5 v6, cf, kp⟩ :: l) e M κ = (okO C e M (.ixa v1 v2 v3 v4 v5 v6) ∧ cfC C lg (.ixa v1 v2 v3 v4 v5 v6) e M cf ∧ doPs C (i + 1) (lgPut kp i (.ixa v1 v2 v3 v4 v5 v6) e M lg) l (putE (dsO (.ixa v1 v2 v3 v4 v5 v6)) (vlO C e M (.ixa v1 v2 v3 v4 v5 v6)) e) (mmO C e M (.ixa v1 v2 v3 v4 v5 v6)) κ) := doPs_ng rfl
theorem d_ss {l : List O} {e : Env} {M : Mem} {κ : Env → Mem → Prop} (v1 : Nat) (v2 : Opd) (v3 : Option Opd) (v4 : Option Opd) : doOs C (.ss v1 v2 v3 v4 :: l) e M κ = (okO C e M (.ss v1 v2 v3 v4) ∧ doOs C l (putE (dsO (.ss v1 v2 v3 v4)) (vlO C e M (.ss v1 v2 v3 v4)) e) (mmO C e M (.ss v1 v2 v3 v4)) κ) := doOs_ng rfl
theorem p_ss {i : Nat} {lg : List Lg} {cf : List Nat} {kp : Bool} {l : List PO} {e : Env} {M : Mem} {κ : Env → Mem → Prop} (v1 : Nat) (v2 : Opd) (v3 : Option Opd) (v4 : Option Opd) : doPs C i lg (⟨.ss v1 v2 v3 v4, cf, kp⟩ :: l) e M κ = (okO C e M (.ss v1 v2 v3 v4) ∧ cfC C lg (.ss v1 v2 v3 v4) e M cf ∧ doPs C (i + 1) (lgPut kp i (.ss v1 v2 v3 v4) e M lg) l (putE (dsO (.ss v1 v2 v3 v4)) (vlO C e M (.ss v1 v2 v3 v4)) e) (mmO C e M (.ss v1 v2 v3 v4)) κ) := doPs_ng rfl
theorem d_sl {l : List O} {e : Env} {M : Mem} {κ : Env → Mem → Prop} (v1 : Nat) (v2 : Opd) (v3 : Option Opd) (v4 : Option Opd) (v5 : Nat) : doOs C (.sl v1 v2 v3 v4 v5 :: l) e M κ = (okO C e M (.sl v1 v2 v3 v4 v5) ∧ doOs C l (putE (dsO (.sl v1 v2 v3 v4 v5)) (vlO C e M (.sl v1 v2 v3 v4 v5)) e) (mmO C e M (.sl v1 v2 v3 v4 v5)) κ) := doOs_ng rfl
theorem p_sl {i : Nat} {lg : List Lg} {cf : List Nat} {kp : Bool} {l : List PO} {e : Env} {M : Mem} {κ : Env → Mem → Prop} (v1 : Nat) (v2 : Opd) (v3 : Option Opd) (v4 : Option Opd) (v5 : Nat) : doPs C i lg (⟨.sl v1 v2 v3 v4 v5, cf, kp⟩ :: l) e M κ = (okO C e M (.sl v1 v2 v3 v4 v5) ∧ cfC C lg (.sl v1 v2 v3 v4 v5) e M cf ∧ doPs C (i + 1) (lgPut kp i (.sl v1 v2 v3 v4 v5) e M lg) l (putE (dsO (.sl v1 v2 v3 v4 v5)) (vlO C e M (.sl v1 v2 v3 v4 v5)) e) (mmO C e M (.sl v1 v2 v3 v4 v5)) κ) := doPs_ng rfl
theorem d_sla {l : List O} {e : Env} {M : Mem} {κ : Env → Mem → Prop} (v1 : Nat) (v2 : Opd) (v3 : Nat) (v4 : Nat) : doOs C (.sla v1 v2 v3 v4 :: l) e M κ = (okO C e M (.sla v1 v2 v3 v4) ∧ doOs C l (putE (dsO (.sla v1 v2 v3 v4)) (vlO C e M (.sla v1 v2 v3 v4)) e) (mmO C e M (.sla v1 v2 v3 v4)) κ) := doOs_ng rfl
theorem p_sla {i : Nat} {lg : List Lg} {cf : List Nat} {kp : Bool} {l : List PO} {e : Env} {M : Mem} {κ : Env → Mem → Prop} (v1 : Nat) (v2 : Opd) (v3 : Nat) (v4 : Nat) : doPs C i lg (⟨.sla v1 v2 v3 v4, cf, kp⟩ :: l) e M κ = (okO C e M (.sla v1 v2 v3 v4) ∧ cfC C lg (.sla v1 v2 v3 v4) e M cf ∧ doPs C (i + 1) (lgPut kp i (.sla v1 v2 v3 v4) e M lg) l (putE (dsO (.sla v1 v2 v3 v4)) (vlO C e M (.sla v1 v2 v3 v4)) e) (mmO C e M (.sla v1 v2 v3 v4)) κ) := doPs_ng rfl
theorem d_ln {l : List O} {e : Env} {M : Mem} {κ : Env → Mem → Prop} (v1 : Nat) (v2 : Opd) : doOs C (.ln v1 v2 :: l) e M κ = (okO C e M (.ln v1 v2) ∧ doOs C l (putE (dsO (.ln v1 v2)) (vlO C e M (.ln v1 v2)) e) (mmO C e M (.ln v1 v2)) κ) := doOs_ng rfl
theorem p_ln {i : Nat} {lg : List Lg} {cf : List Nat} {kp : Bool} {l : List PO} {e : Env} {M : Mem} {κ : Env → Mem → Prop} (v1 : Nat) (v2 : Opd) : doPs C i lg (⟨.ln v1 v2, cf, kp⟩ :: l) e M κ = (okO C e M (.ln v1 v2) ∧ cfC C lg (.ln v1 v2) e M cf ∧ doPs C (i + 1) (lgPut kp i (.ln v1 v2) e M lg) l (putE (dsO (.ln v1 v2)) (vlO C e M (.ln v1 v2)) e) (mmO C e M (.ln v1 v2)) κ) := doPs_ng rfl
theorem d_lns {l : List O} {e : Env} {M : Mem} {κ : Env → Mem → Prop} (v1 : Nat) (v2 : Opd) : doOs C (.lns v1 v2 :: l) e M κ = (okO C e M (.lns v1 v2) ∧ doOs C l (putE (dsO (.lns v1 v2)) (vlO C e M (.lns v1 v2)) e) (mmO C e M (.lns v1 v2)) κ) := doOs_ng rfl
theorem p_lns {i : Nat} {lg : List Lg} {cf : List Nat} {kp : Bool} {l : List PO} {e : Env} {M : Mem} {κ : Env → Mem → Prop} (v1 : Nat) (v2 : Opd) : doPs C i lg (⟨.lns v1 v2, cf, kp⟩ :: l) e M κ = (okO C e M (.lns v1 v2) ∧ cfC C lg (.lns v1 v2) e M cf ∧ doPs C (i + 1) (lgPut kp i (.lns v1 v2) e M lg) l (putE (dsO (.lns v1 v2)) (vlO C e M (.lns v1 v2)) e) (mmO C e M (.lns v1 v2)) κ) := doPs_ng rfl
theorem d_lnm {l : List O} {e : Env} {M : Mem} {κ : Env → Mem → Prop} (v1 : Nat) (v2 : Opd) : doOs C (.lnm v1 v2 :: l) e M κ = (okO C e M (.lnm v1 v2) ∧ doOs C l (putE (dsO (.lnm v1 v2)) (vlO C e M (.lnm v1 v2)) e) (mmO C e M (.lnm v1 v2)) κ) := doOs_ng rfl
theorem p_lnm {i : Nat} {lg : List Lg} {cf : List Nat} {kp : Bool} {l : List PO} {e : Env} {M : Mem} {κ : Env → Mem → Prop} (v1 : Nat) (v2 : Opd) : doPs C i lg (⟨.lnm v1 v2, cf, kp⟩ :: l) e M κ = (okO C e M (.lnm v1 v2) ∧ cfC C lg (.lnm v1 v2) e M cf ∧ doPs C (i + 1) (lgPut kp i (.lnm v1 v2) e M lg) l (putE (dsO (.lnm v1 v2)) (vlO C e M (.lnm v1 v2)) e) (mmO C e M (.lnm v1 v2)) κ) := doPs_ng rfl
theorem d_al {l : List O} {e : Env} {M : Mem} {κ : Env → Mem → Prop} (v1 : Nat) (v2 : Nat) (v3 : List AV) : doOs C (.al v1 v2 v3 :: l) e M κ = (okO C e M (.al v1 v2 v3) ∧ doOs C l (putE (dsO (.al v1 v2 v3)) (vlO C e M (.al v1 v2 v3)) e) (mmO C e M (.al v1 v2 v3)) κ) := doOs_ng rfl
theorem p_al {i : Nat} {lg : List Lg} {cf : List Nat} {kp : Bool} {l : List PO} {e : Env} {M : Mem} {κ : Env → Mem → Prop} (v1 : Nat) (v2 : Nat) (v3 : List AV) : doPs C i lg (⟨.al v1 v2 v3, cf, kp⟩ :: l) e M κ = (okO C e M (.al v1 v2 v3) ∧ cfC C lg (.al v1 v2 v3) e M cf ∧ doPs C (i + 1) (lgPut kp i (.al v1 v2 v3) e M lg) l (putE (dsO (.al v1 v2 v3)) (vlO C e M (.al v1 v2 v3)) e) (mmO C e M (.al v1 v2 v3)) κ) := doPs_ng rfl
theorem d_bx {l : List O} {e : Env} {M : Mem} {κ : Env → Mem → Prop} (v1 : Nat) (v2 : Opd) : doOs C (.bx v1 v2 :: l) e M κ = (okO C e M (.bx v1 v2) ∧ doOs C l (putE (dsO (.bx v1 v2)) (vlO C e M (.bx v1 v2)) e) (mmO C e M (.bx v1 v2)) κ) := doOs_ng rfl
theorem p_bx {i : Nat} {lg : List Lg} {cf : List Nat} {kp : Bool} {l : List PO} {e : Env} {M : Mem} {κ : Env → Mem → Prop} (v1 : Nat) (v2 : Opd) : doPs C i lg (⟨.bx v1 v2, cf, kp⟩ :: l) e M κ = (okO C e M (.bx v1 v2) ∧ cfC C lg (.bx v1 v2) e M cf ∧ doPs C (i + 1) (lgPut kp i (.bx v1 v2) e M lg) l (putE (dsO (.bx v1 v2)) (vlO C e M (.bx v1 v2)) e) (mmO C e M (.bx v1 v2)) κ) := doPs_ng rfl
theorem d_lal {l : List O} {e : Env} {M : Mem} {κ : Env → Mem → Prop} (v1 : Nat) (v2 : AV) : doOs C (.lal v1 v2 :: l) e M κ = (okO C e M (.lal v1 v2) ∧ doOs C l (putE (dsO (.lal v1 v2)) (vlO C e M (.lal v1 v2)) e) (mmO C e M (.lal v1 v2)) κ) := doOs_ng rfl
theorem p_lal {i : Nat} {lg : List Lg} {cf : List Nat} {kp : Bool} {l : List PO} {e : Env} {M : Mem} {κ : Env → Mem → Prop} (v1 : Nat) (v2 : AV) : doPs C i lg (⟨.lal v1 v2, cf, kp⟩ :: l) e M κ = (okO C e M (.lal v1 v2) ∧ cfC C lg (.lal v1 v2) e M cf ∧ doPs C (i + 1) (lgPut kp i (.lal v1 v2) e M lg) l (putE (dsO (.lal v1 v2)) (vlO C e M (.lal v1 v2)) e) (mmO C e M (.lal v1 v2)) κ) := doPs_ng rfl
theorem d_lbx {l : List O} {e : Env} {M : Mem} {κ : Env → Mem → Prop} (v1 : Nat) (v2 : Opd) : doOs C (.lbx v1 v2 :: l) e M κ = (okO C e M (.lbx v1 v2) ∧ doOs C l (putE (dsO (.lbx v1 v2)) (vlO C e M (.lbx v1 v2)) e) (mmO C e M (.lbx v1 v2)) κ) := doOs_ng rfl
theorem p_lbx {i : Nat} {lg : List Lg} {cf : List Nat} {kp : Bool} {l : List PO} {e : Env} {M : Mem} {κ : Env → Mem → Prop} (v1 : Nat) (v2 : Opd) : doPs C i lg (⟨.lbx v1 v2, cf, kp⟩ :: l) e M κ = (okO C e M (.lbx v1 v2) ∧ cfC C lg (.lbx v1 v2) e M cf ∧ doPs C (i + 1) (lgPut kp i (.lbx v1 v2) e M lg) l (putE (dsO (.lbx v1 v2)) (vlO C e M (.lbx v1 v2)) e) (mmO C e M (.lbx v1 v2)) κ) := doPs_ng rfl
theorem d_ld {l : List O} {e : Env} {M : Mem} {κ : Env → Mem → Prop} (v1 : Nat) (v2 : Opd) (v3 : Option Nat) : doOs C (.ld v1 v2 v3 :: l) e M κ = (okO C e M (.ld v1 v2 v3) ∧ doOs C l (putE (dsO (.ld v1 v2 v3)) (vlO C e M (.ld v1 v2 v3)) e) (mmO C e M (.ld v1 v2 v3)) κ) := doOs_ng rfl
theorem p_ld {i : Nat} {lg : List Lg} {cf : List Nat} {kp : Bool} {l : List PO} {e : Env} {M : Mem} {κ : Env → Mem → Prop} (v1 : Nat) (v2 : Opd) (v3 : Option Nat) : doPs C i lg (⟨.ld v1 v2 v3, cf, kp⟩ :: l) e M κ = (okO C e M (.ld v1 v2 v3) ∧ cfC C lg (.ld v1 v2 v3) e M cf ∧ doPs C (i + 1) (lgPut kp i (.ld v1 v2 v3) e M lg) l (putE (dsO (.ld v1 v2 v3)) (vlO C e M (.ld v1 v2 v3)) e) (mmO C e M (.ld v1 v2 v3)) κ) := doPs_ng rfl
theorem d_st {l : List O} {e : Env} {M : Mem} {κ : Env → Mem → Prop} (v1 : Opd) (v2 : Opd) (v3 : Nat) : doOs C (.st v1 v2 v3 :: l) e M κ = (okO C e M (.st v1 v2 v3) ∧ doOs C l (putE (dsO (.st v1 v2 v3)) (vlO C e M (.st v1 v2 v3)) e) (mmO C e M (.st v1 v2 v3)) κ) := doOs_ng rfl
theorem p_st {i : Nat} {lg : List Lg} {cf : List Nat} {kp : Bool} {l : List PO} {e : Env} {M : Mem} {κ : Env → Mem → Prop} (v1 : Opd) (v2 : Opd) (v3 : Nat) : doPs C i lg (⟨.st v1 v2 v3, cf, kp⟩ :: l) e M κ = (okO C e M (.st v1 v2 v3) ∧ cfC C lg (.st v1 v2 v3) e M cf ∧ doPs C (i + 1) (lgPut kp i (.st v1 v2 v3) e M lg) l (putE (dsO (.st v1 v2 v3)) (vlO C e M (.st v1 v2 v3)) e) (mmO C e M (.st v1 v2 v3)) κ) := doPs_ng rfl
theorem d_fa {l : List O} {e : Env} {M : Mem} {κ : Env → Mem → Prop} (v1 : Nat) (v2 : Opd) (v3 : Nat) : doOs C (.fa v1 v2 v3 :: l) e M κ = (okO C e M (.fa v1 v2 v3) ∧ doOs C l (putE (dsO (.fa v1 v2 v3)) (vlO C e M (.fa v1 v2 v3)) e) (mmO C e M (.fa v1 v2 v3)) κ) := doOs_ng rfl
theorem p_fa {i : Nat} {lg : List Lg} {cf : List Nat} {kp : Bool} {l : List PO} {e : Env} {M : Mem} {κ : Env → Mem → Prop} (v1 : Nat) (v2 : Opd) (v3 : Nat) : doPs C i lg (⟨.fa v1 v2 v3, cf, kp⟩ :: l) e M κ = (okO C e M (.fa v1 v2 v3) ∧ cfC C lg (.fa v1 v2 v3) e M cf ∧ doPs C (i + 1) (lgPut kp i (.fa v1 v2 v3) e M lg) l (putE (dsO (.fa v1 v2 v3)) (vlO C e M (.fa v1 v2 v3)) e) (mmO C e M (.fa v1 v2 v3)) κ) := doPs_ng rfl
theorem d_ia {l : List O} {e : Env} {M : Mem} {κ : Env → Mem → Prop} (v1 : Nat) (v2 : Opd) (v3 : Opd) (v4 : Nat) : doOs C (.ia v1 v2 v3 v4 :: l) e M κ = (okO C e M (.ia v1 v2 v3 v4) ∧ doOs C l (putE (dsO (.ia v1 v2 v3 v4)) (vlO C e M (.ia v1 v2 v3 v4)) e) (mmO C e M (.ia v1 v2 v3 v4)) κ) := doOs_ng rfl
theorem p_ia {i : Nat} {lg : List Lg} {cf : List Nat} {kp : Bool} {l : List PO} {e : Env} {M : Mem} {κ : Env → Mem → Prop} (v1 : Nat) (v2 : Opd) (v3 : Opd) (v4 : Nat) : doPs C i lg (⟨.ia v1 v2 v3 v4, cf, kp⟩ :: l) e M κ = (okO C e M (.ia v1 v2 v3 v4) ∧ cfC C lg (.ia v1 v2 v3 v4) e M cf ∧ doPs C (i + 1) (lgPut kp i (.ia v1 v2 v3 v4) e M lg) l (putE (dsO (.ia v1 v2 v3 v4)) (vlO C e M (.ia v1 v2 v3 v4)) e) (mmO C e M (.ia v1 v2 v3 v4)) κ) := doPs_ng rfl
theorem d_iaa {l : List O} {e : Env} {M : Mem} {κ : Env → Mem → Prop} (v1 : Nat) (v2 : Opd) (v3 : Opd) (v4 : Nat) (v5 : Nat) : doOs C (.iaa v1 v2 v3 v4 v5 :: l) e M κ = (okO C e M (.iaa v1 v2 v3 v4 v5) ∧ doOs C l (putE (dsO (.iaa v1 v2 v3 v4 v5)) (vlO C e M (.iaa v1 v2 v3 v4 v5)) e) (mmO C e M (.iaa v1 v2 v3 v4 v5)) κ) := doOs_ng rfl
theorem p_iaa {i : Nat} {lg : List Lg} {cf : List Nat} {kp : Bool} {l : List PO} {e : Env} {M : Mem} {κ : Env → Mem → Prop} (v1 : Nat) (v2 : Opd) (v3 : Opd) (v4 : Nat) (v5 : Nat) : doPs C i lg (⟨.iaa v1 v2 v3 v4 v5, cf, kp⟩ :: l) e M κ = (okO C e M (.iaa v1 v2 v3 v4 v5) ∧ cfC C lg (.iaa v1 v2 v3 v4 v5) e M cf ∧ doPs C (i + 1) (lgPut kp i (.iaa v1 v2 v3 v4 v5) e M lg) l (putE (dsO (.iaa v1 v2 v3 v4 v5)) (vlO C e M (.iaa v1 v2 v3 v4 v5)) e) (mmO C e M (.iaa v1 v2 v3 v4 v5)) κ) := doPs_ng rfl
theorem d_bs {l : List O} {e : Env} {M : Mem} {κ : Env → Mem → Prop} (v1 : Nat) (v2 : AV) (v3 : Nat) (v4 : Nat) (v5 : List (Nat × Opd)) : doOs C (.bs v1 v2 v3 v4 v5 :: l) e M κ = (okO C e M (.bs v1 v2 v3 v4 v5) ∧ doOs C l (putE (dsO (.bs v1 v2 v3 v4 v5)) (vlO C e M (.bs v1 v2 v3 v4 v5)) e) (mmO C e M (.bs v1 v2 v3 v4 v5)) κ) := doOs_ng rfl
theorem p_bs {i : Nat} {lg : List Lg} {cf : List Nat} {kp : Bool} {l : List PO} {e : Env} {M : Mem} {κ : Env → Mem → Prop} (v1 : Nat) (v2 : AV) (v3 : Nat) (v4 : Nat) (v5 : List (Nat × Opd)) : doPs C i lg (⟨.bs v1 v2 v3 v4 v5, cf, kp⟩ :: l) e M κ = (okO C e M (.bs v1 v2 v3 v4 v5) ∧ cfC C lg (.bs v1 v2 v3 v4 v5) e M cf ∧ doPs C (i + 1) (lgPut kp i (.bs v1 v2 v3 v4 v5) e M lg) l (putE (dsO (.bs v1 v2 v3 v4 v5)) (vlO C e M (.bs v1 v2 v3 v4 v5)) e) (mmO C e M (.bs v1 v2 v3 v4 v5)) κ) := doPs_ng rfl
theorem d_lbs {l : List O} {e : Env} {M : Mem} {κ : Env → Mem → Prop} (v1 : Nat) (v2 : AV) (v3 : Nat) (v4 : Nat) (v5 : List (Nat × Opd)) : doOs C (.lbs v1 v2 v3 v4 v5 :: l) e M κ = (okO C e M (.lbs v1 v2 v3 v4 v5) ∧ doOs C l (putE (dsO (.lbs v1 v2 v3 v4 v5)) (vlO C e M (.lbs v1 v2 v3 v4 v5)) e) (mmO C e M (.lbs v1 v2 v3 v4 v5)) κ) := doOs_ng rfl
theorem p_lbs {i : Nat} {lg : List Lg} {cf : List Nat} {kp : Bool} {l : List PO} {e : Env} {M : Mem} {κ : Env → Mem → Prop} (v1 : Nat) (v2 : AV) (v3 : Nat) (v4 : Nat) (v5 : List (Nat × Opd)) : doPs C i lg (⟨.lbs v1 v2 v3 v4 v5, cf, kp⟩ :: l) e M κ = (okO C e M (.lbs v1 v2 v3 v4 v5) ∧ cfC C lg (.lbs v1 v2 v3 v4 v5) e M cf ∧ doPs C (i + 1) (lgPut kp i (.lbs v1 v2 v3 v4 v5) e M lg) l (putE (dsO (.lbs v1 v2 v3 v4 v5)) (vlO C e M (.lbs v1 v2 v3 v4 v5)) e) (mmO C e M (.lbs v1 v2 v3 v4 v5)) κ) := doPs_ng rfl
theorem d_mk {l : List O} {e : Env} {M : Mem} {κ : Env → Mem → Prop} (v1 : Nat) (v2 : AV) (v3 : Nat) (v4 : Nat) (v5 : Opd) : doOs C (.mk v1 v2 v3 v4 v5 :: l) e M κ = (okO C e M (.mk v1 v2 v3 v4 v5) ∧ doOs C l (putE (dsO (.mk v1 v2 v3 v4 v5)) (vlO C e M (.mk v1 v2 v3 v4 v5)) e) (mmO C e M (.mk v1 v2 v3 v4 v5)) κ) := doOs_ng rfl
theorem p_mk {i : Nat} {lg : List Lg} {cf : List Nat} {kp : Bool} {l : List PO} {e : Env} {M : Mem} {κ : Env → Mem → Prop} (v1 : Nat) (v2 : AV) (v3 : Nat) (v4 : Nat) (v5 : Opd) : doPs C i lg (⟨.mk v1 v2 v3 v4 v5, cf, kp⟩ :: l) e M κ = (okO C e M (.mk v1 v2 v3 v4 v5) ∧ cfC C lg (.mk v1 v2 v3 v4 v5) e M cf ∧ doPs C (i + 1) (lgPut kp i (.mk v1 v2 v3 v4 v5) e M lg) l (putE (dsO (.mk v1 v2 v3 v4 v5)) (vlO C e M (.mk v1 v2 v3 v4 v5)) e) (mmO C e M (.mk v1 v2 v3 v4 v5)) κ) := doPs_ng rfl
theorem d_ap {l : List O} {e : Env} {M : Mem} {κ : Env → Mem → Prop} (v1 : Nat) (v2 : Opd) (v3 : Opd) (v4 : Nat) (v5 : Nat) : doOs C (.ap v1 v2 v3 v4 v5 :: l) e M κ = (okO C e M (.ap v1 v2 v3 v4 v5) ∧ doOs C l (putE (dsO (.ap v1 v2 v3 v4 v5)) (vlO C e M (.ap v1 v2 v3 v4 v5)) e) (mmO C e M (.ap v1 v2 v3 v4 v5)) κ) := doOs_ng rfl
theorem p_ap {i : Nat} {lg : List Lg} {cf : List Nat} {kp : Bool} {l : List PO} {e : Env} {M : Mem} {κ : Env → Mem → Prop} (v1 : Nat) (v2 : Opd) (v3 : Opd) (v4 : Nat) (v5 : Nat) : doPs C i lg (⟨.ap v1 v2 v3 v4 v5, cf, kp⟩ :: l) e M κ = (okO C e M (.ap v1 v2 v3 v4 v5) ∧ cfC C lg (.ap v1 v2 v3 v4 v5) e M cf ∧ doPs C (i + 1) (lgPut kp i (.ap v1 v2 v3 v4 v5) e M lg) l (putE (dsO (.ap v1 v2 v3 v4 v5)) (vlO C e M (.ap v1 v2 v3 v4 v5)) e) (mmO C e M (.ap v1 v2 v3 v4 v5)) κ) := doPs_ng rfl
theorem d_cp {l : List O} {e : Env} {M : Mem} {κ : Env → Mem → Prop} (v1 : Nat) (v2 : Opd) (v3 : Opd) (v4 : Nat) : doOs C (.cp v1 v2 v3 v4 :: l) e M κ = (okO C e M (.cp v1 v2 v3 v4) ∧ doOs C l (putE (dsO (.cp v1 v2 v3 v4)) (vlO C e M (.cp v1 v2 v3 v4)) e) (mmO C e M (.cp v1 v2 v3 v4)) κ) := doOs_ng rfl
theorem p_cp {i : Nat} {lg : List Lg} {cf : List Nat} {kp : Bool} {l : List PO} {e : Env} {M : Mem} {κ : Env → Mem → Prop} (v1 : Nat) (v2 : Opd) (v3 : Opd) (v4 : Nat) : doPs C i lg (⟨.cp v1 v2 v3 v4, cf, kp⟩ :: l) e M κ = (okO C e M (.cp v1 v2 v3 v4) ∧ cfC C lg (.cp v1 v2 v3 v4) e M cf ∧ doPs C (i + 1) (lgPut kp i (.cp v1 v2 v3 v4) e M lg) l (putE (dsO (.cp v1 v2 v3 v4)) (vlO C e M (.cp v1 v2 v3 v4)) e) (mmO C e M (.cp v1 v2 v3 v4)) κ) := doPs_ng rfl
theorem d_cl {l : List O} {e : Env} {M : Mem} {κ : Env → Mem → Prop} (v1 : Option Nat) (v2 : Nat) (v3 : List Opd) : doOs C (.cl v1 v2 v3 :: l) e M κ = (okO C e M (.cl v1 v2 v3) ∧ doOs C l (putE (dsO (.cl v1 v2 v3)) (vlO C e M (.cl v1 v2 v3)) e) (mmO C e M (.cl v1 v2 v3)) κ) := doOs_ng rfl
theorem p_cl {i : Nat} {lg : List Lg} {cf : List Nat} {kp : Bool} {l : List PO} {e : Env} {M : Mem} {κ : Env → Mem → Prop} (v1 : Option Nat) (v2 : Nat) (v3 : List Opd) : doPs C i lg (⟨.cl v1 v2 v3, cf, kp⟩ :: l) e M κ = (okO C e M (.cl v1 v2 v3) ∧ cfC C lg (.cl v1 v2 v3) e M cf ∧ doPs C (i + 1) (lgPut kp i (.cl v1 v2 v3) e M lg) l (putE (dsO (.cl v1 v2 v3)) (vlO C e M (.cl v1 v2 v3)) e) (mmO C e M (.cl v1 v2 v3)) κ) := doPs_ng rfl
theorem d_cv {l : List O} {e : Env} {M : Mem} {κ : Env → Mem → Prop} (v1 : Option Nat) (v2 : Opd) (v3 : List Opd) : doOs C (.cv v1 v2 v3 :: l) e M κ = (okO C e M (.cv v1 v2 v3) ∧ doOs C l (putE (dsO (.cv v1 v2 v3)) (vlO C e M (.cv v1 v2 v3)) e) (mmO C e M (.cv v1 v2 v3)) κ) := doOs_ng rfl
theorem p_cv {i : Nat} {lg : List Lg} {cf : List Nat} {kp : Bool} {l : List PO} {e : Env} {M : Mem} {κ : Env → Mem → Prop} (v1 : Option Nat) (v2 : Opd) (v3 : List Opd) : doPs C i lg (⟨.cv v1 v2 v3, cf, kp⟩ :: l) e M κ = (okO C e M (.cv v1 v2 v3) ∧ cfC C lg (.cv v1 v2 v3) e M cf ∧ doPs C (i + 1) (lgPut kp i (.cv v1 v2 v3) e M lg) l (putE (dsO (.cv v1 v2 v3)) (vlO C e M (.cv v1 v2 v3)) e) (mmO C e M (.cv v1 v2 v3)) κ) := doPs_ng rfl
theorem d_mf {l : List O} {e : Env} {M : Mem} {κ : Env → Mem → Prop} (v1 : Nat) (v2 : Nat) (v3 : List Opd) : doOs C (.mf v1 v2 v3 :: l) e M κ = (okO C e M (.mf v1 v2 v3) ∧ doOs C l (putE (dsO (.mf v1 v2 v3)) (vlO C e M (.mf v1 v2 v3)) e) (mmO C e M (.mf v1 v2 v3)) κ) := doOs_ng rfl
theorem p_mf {i : Nat} {lg : List Lg} {cf : List Nat} {kp : Bool} {l : List PO} {e : Env} {M : Mem} {κ : Env → Mem → Prop} (v1 : Nat) (v2 : Nat) (v3 : List Opd) : doPs C i lg (⟨.mf v1 v2 v3, cf, kp⟩ :: l) e M κ = (okO C e M (.mf v1 v2 v3) ∧ cfC C lg (.mf v1 v2 v3) e M cf ∧ doPs C (i + 1) (lgPut kp i (.mf v1 v2 v3) e M lg) l (putE (dsO (.mf v1 v2 v3)) (vlO C e M (.mf v1 v2 v3)) e) (mmO C e M (.mf v1 v2 v3)) κ) := doPs_ng rfl
theorem d_nc {l : List O} {e : Env} {M : Mem} {κ : Env → Mem → Prop} (v1 : Nat) (v2 : Opd) : doOs C (.nc v1 v2 :: l) e M κ = (okO C e M (.nc v1 v2) ∧ doOs C l (putE (dsO (.nc v1 v2)) (vlO C e M (.nc v1 v2)) e) (mmO C e M (.nc v1 v2)) κ) := doOs_ng rfl
theorem p_nc {i : Nat} {lg : List Lg} {cf : List Nat} {kp : Bool} {l : List PO} {e : Env} {M : Mem} {κ : Env → Mem → Prop} (v1 : Nat) (v2 : Opd) : doPs C i lg (⟨.nc v1 v2, cf, kp⟩ :: l) e M κ = (okO C e M (.nc v1 v2) ∧ cfC C lg (.nc v1 v2) e M cf ∧ doPs C (i + 1) (lgPut kp i (.nc v1 v2) e M lg) l (putE (dsO (.nc v1 v2)) (vlO C e M (.nc v1 v2)) e) (mmO C e M (.nc v1 v2)) κ) := doPs_ng rfl
theorem d_mm {l : List O} {e : Env} {M : Mem} {κ : Env → Mem → Prop} (v1 : Nat) (v2 : Bool) (v3 : Opd) (v4 : Opd) : doOs C (.mm v1 v2 v3 v4 :: l) e M κ = (okO C e M (.mm v1 v2 v3 v4) ∧ doOs C l (putE (dsO (.mm v1 v2 v3 v4)) (vlO C e M (.mm v1 v2 v3 v4)) e) (mmO C e M (.mm v1 v2 v3 v4)) κ) := doOs_ng rfl
theorem p_mm {i : Nat} {lg : List Lg} {cf : List Nat} {kp : Bool} {l : List PO} {e : Env} {M : Mem} {κ : Env → Mem → Prop} (v1 : Nat) (v2 : Bool) (v3 : Opd) (v4 : Opd) : doPs C i lg (⟨.mm v1 v2 v3 v4, cf, kp⟩ :: l) e M κ = (okO C e M (.mm v1 v2 v3 v4) ∧ cfC C lg (.mm v1 v2 v3 v4) e M cf ∧ doPs C (i + 1) (lgPut kp i (.mm v1 v2 v3 v4) e M lg) l (putE (dsO (.mm v1 v2 v3 v4)) (vlO C e M (.mm v1 v2 v3 v4)) e) (mmO C e M (.mm v1 v2 v3 v4)) κ) := doPs_ng rfl
theorem d_mkm {l : List O} {e : Env} {M : Mem} {κ : Env → Mem → Prop} (v1 : Nat) : doOs C (.mkm v1 :: l) e M κ = (okO C e M (.mkm v1) ∧ doOs C l (putE (dsO (.mkm v1)) (vlO C e M (.mkm v1)) e) (mmO C e M (.mkm v1)) κ) := doOs_ng rfl
theorem p_mkm {i : Nat} {lg : List Lg} {cf : List Nat} {kp : Bool} {l : List PO} {e : Env} {M : Mem} {κ : Env → Mem → Prop} (v1 : Nat) : doPs C i lg (⟨.mkm v1, cf, kp⟩ :: l) e M κ = (okO C e M (.mkm v1) ∧ cfC C lg (.mkm v1) e M cf ∧ doPs C (i + 1) (lgPut kp i (.mkm v1) e M lg) l (putE (dsO (.mkm v1)) (vlO C e M (.mkm v1)) e) (mmO C e M (.mkm v1)) κ) := doPs_ng rfl
theorem d_lk {l : List O} {e : Env} {M : Mem} {κ : Env → Mem → Prop} (v1 : Nat) (v2 : Opd) (v3 : Opd) (v4 : AV) (v5 : List Ck) (v6 : Bool) : doOs C (.lk v1 v2 v3 v4 v5 v6 :: l) e M κ = (okO C e M (.lk v1 v2 v3 v4 v5 v6) ∧ doOs C l (putE (dsO (.lk v1 v2 v3 v4 v5 v6)) (vlO C e M (.lk v1 v2 v3 v4 v5 v6)) e) (mmO C e M (.lk v1 v2 v3 v4 v5 v6)) κ) := doOs_ng rfl
theorem p_lk {i : Nat} {lg : List Lg} {cf : List Nat} {kp : Bool} {l : List PO} {e : Env} {M : Mem} {κ : Env → Mem → Prop} (v1 : Nat) (v2 : Opd) (v3 : Opd) (v4 : AV) (v5 : List Ck) (v6 : Bool) : doPs C i lg (⟨.lk v1 v2 v3 v4 v5 v6, cf, kp⟩ :: l) e M κ = (okO C e M (.lk v1 v2 v3 v4 v5 v6) ∧ cfC C lg (.lk v1 v2 v3 v4 v5 v6) e M cf ∧ doPs C (i + 1) (lgPut kp i (.lk v1 v2 v3 v4 v5 v6) e M lg) l (putE (dsO (.lk v1 v2 v3 v4 v5 v6)) (vlO C e M (.lk v1 v2 v3 v4 v5 v6)) e) (mmO C e M (.lk v1 v2 v3 v4 v5 v6)) κ) := doPs_ng rfl
theorem d_mu {l : List O} {e : Env} {M : Mem} {κ : Env → Mem → Prop} (v1 : Opd) (v2 : Opd) (v3 : Opd) (v4 : List Ck) : doOs C (.mu v1 v2 v3 v4 :: l) e M κ = (okO C e M (.mu v1 v2 v3 v4) ∧ doOs C l (putE (dsO (.mu v1 v2 v3 v4)) (vlO C e M (.mu v1 v2 v3 v4)) e) (mmO C e M (.mu v1 v2 v3 v4)) κ) := doOs_ng rfl
theorem p_mu {i : Nat} {lg : List Lg} {cf : List Nat} {kp : Bool} {l : List PO} {e : Env} {M : Mem} {κ : Env → Mem → Prop} (v1 : Opd) (v2 : Opd) (v3 : Opd) (v4 : List Ck) : doPs C i lg (⟨.mu v1 v2 v3 v4, cf, kp⟩ :: l) e M κ = (okO C e M (.mu v1 v2 v3 v4) ∧ cfC C lg (.mu v1 v2 v3 v4) e M cf ∧ doPs C (i + 1) (lgPut kp i (.mu v1 v2 v3 v4) e M lg) l (putE (dsO (.mu v1 v2 v3 v4)) (vlO C e M (.mu v1 v2 v3 v4)) e) (mmO C e M (.mu v1 v2 v3 v4)) κ) := doPs_ng rfl
theorem d_dl {l : List O} {e : Env} {M : Mem} {κ : Env → Mem → Prop} (v1 : Opd) (v2 : Opd) (v3 : List Ck) : doOs C (.dl v1 v2 v3 :: l) e M κ = (okO C e M (.dl v1 v2 v3) ∧ doOs C l (putE (dsO (.dl v1 v2 v3)) (vlO C e M (.dl v1 v2 v3)) e) (mmO C e M (.dl v1 v2 v3)) κ) := doOs_ng rfl
theorem p_dl {i : Nat} {lg : List Lg} {cf : List Nat} {kp : Bool} {l : List PO} {e : Env} {M : Mem} {κ : Env → Mem → Prop} (v1 : Opd) (v2 : Opd) (v3 : List Ck) : doPs C i lg (⟨.dl v1 v2 v3, cf, kp⟩ :: l) e M κ = (okO C e M (.dl v1 v2 v3) ∧ cfC C lg (.dl v1 v2 v3) e M cf ∧ doPs C (i + 1) (lgPut kp i (.dl v1 v2 v3) e M lg) l (putE (dsO (.dl v1 v2 v3)) (vlO C e M (.dl v1 v2 v3)) e) (mmO C e M (.dl v1 v2 v3)) κ) := doPs_ng rfl
theorem d_rs {l : List O} {e : Env} {M : Mem} {κ : Env → Mem → Prop} (v1 : Nat) (v2 : Opd) : doOs C (.rs v1 v2 :: l) e M κ = (okO C e M (.rs v1 v2) ∧ doOs C l (putE (dsO (.rs v1 v2)) (vlO C e M (.rs v1 v2)) e) (mmO C e M (.rs v1 v2)) κ) := doOs_ng rfl
theorem p_rs {i : Nat} {lg : List Lg} {cf : List Nat} {kp : Bool} {l : List PO} {e : Env} {M : Mem} {κ : Env → Mem → Prop} (v1 : Nat) (v2 : Opd) : doPs C i lg (⟨.rs v1 v2, cf, kp⟩ :: l) e M κ = (okO C e M (.rs v1 v2) ∧ cfC C lg (.rs v1 v2) e M cf ∧ doPs C (i + 1) (lgPut kp i (.rs v1 v2) e M lg) l (putE (dsO (.rs v1 v2)) (vlO C e M (.rs v1 v2)) e) (mmO C e M (.rs v1 v2)) κ) := doPs_ng rfl
theorem d_nx {l : List O} {e : Env} {M : Mem} {κ : Env → Mem → Prop} (v1 : Nat) (v2 : Opd) : doOs C (.nx v1 v2 :: l) e M κ = (okO C e M (.nx v1 v2) ∧ doOs C l (putE (dsO (.nx v1 v2)) (vlO C e M (.nx v1 v2)) e) (mmO C e M (.nx v1 v2)) κ) := doOs_ng rfl
theorem p_nx {i : Nat} {lg : List Lg} {cf : List Nat} {kp : Bool} {l : List PO} {e : Env} {M : Mem} {κ : Env → Mem → Prop} (v1 : Nat) (v2 : Opd) : doPs C i lg (⟨.nx v1 v2, cf, kp⟩ :: l) e M κ = (okO C e M (.nx v1 v2) ∧ cfC C lg (.nx v1 v2) e M cf ∧ doPs C (i + 1) (lgPut kp i (.nx v1 v2) e M lg) l (putE (dsO (.nx v1 v2)) (vlO C e M (.nx v1 v2)) e) (mmO C e M (.nx v1 v2)) κ) := doPs_ng rfl
theorem x_b {id : Nat} {s : S} {e : Env} {M : Mem} {κ : Kont} : exec C (.b id s) e M κ = exec C s e M (kBlk id κ) := rfl
theorem x_x {id : Nat} {e : Env} {M : Mem} {κ : Kont} : exec C (.x id) e M κ = κ (.ex id) e M := rfl
theorem x_r {e : Env} {M : Mem} {κ : Kont} : exec C .r e M κ = κ .rt e M := rfl
end
theorem ex_tp {a : List AV} {p : List AV → Prop} : (∃ xs, AV.tp a = .tp xs ∧ p xs) = p a := propext ⟨fun ⟨_, h, k⟩ => by cases h; exact k, fun h => ⟨a, rfl, h⟩⟩
theorem ex_ag {a : List AV} {p : List AV → Prop} : (∃ xs, AV.ag a = .ag xs ∧ p xs) = p a := propext ⟨fun ⟨_, h, k⟩ => by cases h; exact k, fun h => ⟨a, rfl, h⟩⟩
theorem toNat_nat (i : Nat) : (i : Int).toNat = i := rfl
theorem w64 {x : Int} (h1 : -9223372036854775808 ≤ x) (h2 : x ≤ 9223372036854775807) : IntKind.i64.wrap x = x := by rw [IntKind.wrap_i64]; omega
/-! Heaps that grow. -/
structure Ext (H H' : AH) : Prop where
  n : H.n ≤ H'.n
  at' : ∀ i, i < H.n → H'.at' i = H.at' i
theorem Ext.refl (H : AH) : Ext H H := ⟨Nat.le_refl _, fun _ _ => rfl⟩
theorem Ext.trans {a b c : AH} (h : Ext a b) (k : Ext b c) : Ext a c := ⟨Nat.le_trans h.n k.n, fun i hi => by rw [k.at' i (Nat.lt_of_lt_of_le hi h.n), h.at' i hi]⟩
theorem Ext.new (H : AH) (o : Ob) : Ext H (H.new o) := ⟨Nat.le_succ _, fun i hi => by simp only [AH.new]; rw [if_neg (by omega)]⟩
theorem Ext.set {H H' : AH} {id : Nat} {o : Ob} (h : Ext H H') (hi : H.n ≤ id) : Ext H (H'.set id o) := ⟨h.n, fun i hi' => by simp only [AH.set]; rw [if_neg (by omega)]; exact h.at' i hi'⟩
@[simp] theorem new_n {H : AH} {o : Ob} : (H.new o).n = H.n + 1 := rfl
@[simp] theorem set_n {H : AH} {id : Nat} {o : Ob} : (H.set id o).n = H.n := rfl
@[simp] theorem new_at {H : AH} {o : Ob} : (H.new o).at' H.n = o := by simp [AH.new]
@[simp] theorem set_at {H : AH} {id : Nat} {o : Ob} : (H.set id o).at' id = o := by simp [AH.set]
theorem new_old {H : AH} {o : Ob} {i : Nat} (h : i < H.n) : (H.new o).at' i = H.at' i := by simp only [AH.new]; rw [if_neg (by omega)]
theorem set_ne {H : AH} {id i : Nat} {o : Ob} (h : i ≠ id) : (H.set id o).at' i = H.at' i := by simp only [AH.set]; rw [if_neg h]
theorem new_set {H : AH} {o o' : Ob} : (H.new o).set H.n o' = H.new o' := by
  simp only [AH.set, AH.new]; congr 1; funext i; by_cases h : i = H.n <;> simp [h]
/-! Slices. -/
/-- The object that a slice leads to. -/
def idA : AV → List Nat
  | .sl id _ _ => [id]
  | _ => []
/-- a is a slice whose elements are els, of z cells each, and they may be read. -/
inductive Sl (H : AH) (z : Nat) : AV → List AV → Prop
  | nil : Sl H z .ns []
  | sl {id ix st : Nat} {rw : Bool} {xs els : List AV} : id < H.n → H.at' id = .arr rw st z xs → ix + els.length ≤ xs.length → (xs.drop ix).take els.length = els → (st = 2 → ix + els.length = xs.length) → Sl H z (.sl id ix els.length) els
/-- a is a slice that owns its row. -/
inductive Mn (H : AH) (z : Nat) : AV → List AV → Prop
  | nil : Mn H z .ns []
  | own {id st : Nat} {xs : List AV} : id < H.n → H.at' id = .arr true st z xs → Mn H z (.sl id 0 xs.length) xs
section
variable {H H' : AH} {a : AV} {els : List AV} {z : Nat}
theorem Sl.lt (h : Sl H z a els) : ∀ i, i ∈ idA a → i < H.n := by
  cases h with
  | nil => intro i hi; cases hi
  | sl h1 h2 h3 h4 h5 => intro i hi; simp only [idA, List.mem_singleton] at hi; rw [hi]; exact h1
theorem Sl.fr (h : Sl H z a els) (hn : H.n ≤ H'.n) (ha : ∀ i, i ∈ idA a → H'.at' i = H.at' i) : Sl H' z a els := by
  cases h with
  | nil => exact .nil
  | sl h1 h2 h3 h4 h5 => exact .sl (Nat.lt_of_lt_of_le h1 hn) (by rw [ha _ (by simp [idA])]; exact h2) h3 h4 h5
theorem Sl.ext (h : Sl H z a els) (he : Ext H H') : Sl H' z a els := h.fr he.n fun i hi => he.at' i (h.lt i hi)
theorem Sl.len (h : Sl H z a els) : lenV a = .i .i64 els.length ∧ lenC a := by
  cases h with
  | nil => exact ⟨rfl, trivial⟩
  | sl => exact ⟨rfl, trivial⟩
theorem Sl.rd (h : Sl H z a els) : slOk H a ∧ slZ H z a ∧ slEls H a = els := by
  cases h with
  | nil => exact ⟨trivial, trivial, rfl⟩
  | sl h1 h2 h3 h4 h5 => simp only [slOk, slZ, slEls, h2]; exact ⟨⟨h3, h5⟩, trivial, h4⟩
theorem Sl.one (h : Sl H z a els) : a.cells = [a] := by cases h <;> rfl
theorem Sl.out (h : Sl H z a els) : a.outs = true := by cases h <;> rfl
theorem Sl.src (h : Sl H z a els) (L : List Lv) (g : Nat) : srcV ⟨L, g, H⟩ a = els ∧ srcC ⟨L, g, H⟩ z a := by
  obtain ⟨h1, h2, h3⟩ := h.rd
  cases h <;> exact ⟨h3, h1, h2⟩
/-- An element's address, and what it holds. -/
theorem Sl.ia (h : Sl H z a els) {j : Int} (h0 : 0 ≤ j) (hj : j < els.length) : slZ H z a ∧ iaC j a ∧ faC (iaV j.toNat a) ∧
    ∀ (L : List Lv) (g off : Nat) (n : Option Nat), partFits (els.getD j.toNat .u).cells off n → ldC ⟨L, g, H⟩ n (faV off (iaV j.toNat a)) ∧ ldX ⟨L, g, H⟩ n (faV off (iaV j.toNat a)) = partOf (els.getD j.toNat .u).cells off n := by
  cases h with
  | nil => simp at hj; omega
  | @sl id ix st rw xs els h1 h2 h3 h4 h5 =>
    have hjn : j.toNat < els.length := by omega
    have hx : xs[ix + j.toNat]? = some els[j.toNat] := by
      have := congrArg (·[j.toNat]?) h4
      simp only [List.getElem?_take, if_pos hjn, List.getElem?_drop] at this
      rw [this, List.getElem?_eq_getElem hjn]
    have hg : xs.getD (ix + j.toNat) .u = els.getD j.toNat .u := by simp [List.getD, hx, List.getElem?_eq_getElem hjn]
    refine ⟨by simp only [slZ, h2], ⟨h0, hj⟩, trivial, fun L g off n hp => ⟨?_, ?_⟩⟩
    · simp only [iaV, faV, ldC, h2, hg, Nat.zero_add]
      exact ⟨h5, by omega, hp⟩
    · simp only [iaV, faV, ldX, ldV, h2, hg, Nat.zero_add]
/-- A cell, read at once. -/
theorem fa0 (j : Nat) (a : AV) : faV 0 (iaV j a) = iaV j a := by cases a <;> rfl
theorem Sl.ia1 (h : Sl H z a els) {j : Int} (h0 : 0 ≤ j) (hj : j < els.length) {v : AV} (hv : (els.getD j.toNat .u).cells = [v]) (L : List Lv) (g : Nat) : slZ H z a ∧ iaC j a ∧ ldC ⟨L, g, H⟩ none (iaV j.toNat a) ∧ ldX ⟨L, g, H⟩ none (iaV j.toNat a) = v := by
  obtain ⟨h1, h2, -, h4⟩ := h.ia h0 hj
  have := h4 L g 0 none (by rw [hv]; simp [partFits])
  rw [fa0, hv] at this
  exact ⟨h1, h2, this.1, this.2⟩
/-- A row whose places agree. -/
def Cl (H : AH) (a : AV) : Prop := ∀ i, i ∈ idA a → ∀ rw st z xs, H.at' i = .arr rw st z xs → st ≠ 2
theorem Cl.fr (h : Cl H a) (ha : ∀ i, i ∈ idA a → H'.at' i = H.at' i) : Cl H' a := fun i hi rw st z xs he => h i hi rw st z xs (by rw [← ha i hi]; exact he)
/-- A part of a slice. -/
theorem Sl.sub (h : Sl H z a els) (hst : Cl H a) {lo hi : Int} (h0 : 0 ≤ lo) (h1 : lo ≤ hi) (h2 : hi ≤ els.length) : slC lo hi a ∧ slZ H z a ∧ Sl H z (slV lo.toNat hi.toNat a) ((els.drop lo.toNat).take (hi.toNat - lo.toNat)) := by
  cases h with
  | nil =>
    have e1 : lo = 0 := by simp at h2; omega
    have e2 : hi = 0 := by simp at h2; omega
    subst e1 e2
    exact ⟨⟨rfl, rfl⟩, trivial, by simpa [slV] using (Sl.nil : Sl H z .ns [])⟩
  | @sl id ix st rw xs els k1 k2 k3 k4 k5 =>
    have hs := hst id (by simp [idA]) rw st z xs k2
    refine ⟨⟨h0, h1, h2⟩, by simp only [slZ, k2], ?_⟩
    have hl : ((els.drop lo.toNat).take (hi.toNat - lo.toNat)).length = hi.toNat - lo.toNat := by simp; omega
    simp only [slV]
    have := Sl.sl (H := H) (z := z) (ix := ix + lo.toNat) (els := (els.drop lo.toNat).take (hi.toNat - lo.toNat)) k1 k2 (by rw [hl]; omega) (by
      rw [hl]
      conv => rhs; rw [← k4]
      rw [List.drop_take, List.take_take, List.drop_drop, Nat.min_eq_left (by omega)]) (fun e => absurd e hs)
    rw [hl] at this
    exact this
theorem Mn.sl (h : Mn H z a els) : Sl H z a els := by
  cases h with
  | nil => exact .nil
  | own h1 h2 => exact .sl h1 h2 (by simp) (by simp) (by simp)
theorem Mn.lt (h : Mn H z a els) : ∀ i, i ∈ idA a → i < H.n := h.sl.lt
theorem Mn.fr (h : Mn H z a els) (hn : H.n ≤ H'.n) (ha : ∀ i, i ∈ idA a → H'.at' i = H.at' i) : Mn H' z a els := by
  cases h with
  | nil => exact .nil
  | own h1 h2 => exact .own (Nat.lt_of_lt_of_le h1 hn) (by rw [ha _ (by simp [idA])]; exact h2)
theorem Mn.ext (h : Mn H z a els) (he : Ext H H') : Mn H' z a els := h.fr he.n fun i hi => he.at' i (h.lt i hi)
/-- A store into an element. -/
theorem Mn.st (h : Mn H z a els) {j : Int} (h0 : 0 ≤ j) (hj : j < els.length) {v : AV} {off : Nat} (hf : off + v.cells.length ≤ (els.getD j.toNat .u).cells.length) (L : List Lv) (g : Nat) :
    stC ⟨L, g, H⟩ v (faV off (iaV j.toNat a)) ∧ ∃ H', stM ⟨L, g, H⟩ v (faV off (iaV j.toNat a)) = ⟨L, g, H'⟩ ∧ Mn H' z a (els.set j.toNat (setEl (els.getD j.toNat .u) off v)) ∧ H'.n = H.n ∧ ∀ i, ¬ i ∈ idA a → H'.at' i = H.at' i := by
  cases h with
  | nil => simp at hj; omega
  | @own id st xs h1 h2 =>
    have hjn : j.toNat < els.length := by omega
    refine ⟨?_, H.set id (.arr true (if st = 0 then 0 else 2) z (els.set j.toNat (setEl (els.getD j.toNat .u) off v))), ?_, ?_, rfl, fun i hi => set_ne fun e => hi (by simp [idA, e])⟩
    · simp only [iaV, faV, stC, h2, Nat.zero_add]
      exact ⟨trivial, trivial, hjn, hf⟩
    · simp only [iaV, faV, stM, h2, Nat.zero_add]
    · have hl : (els.set j.toNat (setEl (els.getD j.toNat .u) off v)).length = els.length := by simp
      rw [← hl]
      exact .own h1 set_at
theorem setEl_one {x v : AV} (hv : v.cells = [v]) (hx : ∀ cs, x ≠ .ag cs) : setEl x 0 v = v := by
  cases x <;> first | exact absurd rfl (hx _) | simp [setEl, hv]
/-- Elements appended. -/
theorem Mn.ap (h : Mn H z a els) {y : AV} {ys : List AV} {L : List Lv} {g by' : Nat} (hy : srcV ⟨L, g, H⟩ y = ys ∧ srcC ⟨L, g, H⟩ z y) (hb : (els.length + ys.length) * by' ≤ 140737488355328) :
    apC ⟨L, g, H⟩ z by' y a ∧ ∃ a' H', apV ⟨L, g, H⟩ y a = a' ∧ apM ⟨L, g, H⟩ z y a = ⟨L, g, H'⟩ ∧ Mn H' z a' (els ++ ys) ∧ H.n ≤ H'.n ∧ (∀ i, i < H.n → ¬ i ∈ idA a → H'.at' i = H.at' i) ∧ (∀ i, i ∈ idA a' → i ∈ idA a ∨ H.n ≤ i) ∧ (∀ i, i ∈ idA a → i ∈ idA a') ∧ (Cl H a → Cl H' a') := by
  obtain ⟨hy1, hy2⟩ := hy
  cases h with
  | nil =>
    refine ⟨⟨hy2, by rw [hy1]; simpa using hb⟩, ?_⟩
    by_cases hn : ys.length = 0
    · have : ys = [] := List.eq_nil_of_length_eq_zero hn
      subst this
      exact ⟨.ns, H, by simp only [apV, hy1]; rfl, by simp only [apM, hy1]; rfl, .nil, Nat.le_refl _, fun _ _ _ => rfl, fun i hi => (by cases hi), fun i hi => (by cases hi), fun _ i hi => (by cases hi)⟩
    · refine ⟨.sl H.n 0 ys.length, H.new (.arr true 0 z ys), by simp only [apV, hy1]; rw [if_neg hn], by simp only [apM, hy1]; rw [if_neg hn], .own (by simp) new_at, by simp, fun i hi _ => new_old hi, fun i hi => .inr ?_, fun i hi => (by cases hi), fun _ i hi rw st z' xs he => ?_⟩
      · simp only [idA, List.mem_singleton] at hi; omega
      · simp only [idA, List.mem_singleton] at hi
        subst hi
        rw [new_at] at he
        cases he; decide
  | @own id st xs h1 h2 =>
    refine ⟨⟨by simp only [h2]; exact ⟨trivial, trivial, by simp⟩, hy2, by rw [hy1]; exact hb⟩, .sl id 0 (els.length + ys.length), ?_⟩
    have hl : (els ++ ys).length = els.length + ys.length := by simp
    by_cases hn : ys.length = 0
    · have : ys = [] := List.eq_nil_of_length_eq_zero hn
      subst this
      refine ⟨H, by simp only [apV, hy1], by simp only [apM, h2, hy1]; rfl, ?_, Nat.le_refl _, fun _ _ _ => rfl, fun i hi => .inl hi, fun i hi => hi, fun hc => hc⟩
      rw [← hl, List.append_nil]; exact .own h1 h2
    · refine ⟨H.set id (.arr true (if st = 2 then 2 else 1) z (els ++ ys)), by simp only [apV, hy1], by simp only [apM, h2, hy1]; rw [if_neg hn], ?_, Nat.le_refl _, fun i _ hi => set_ne fun e => hi (by simp [idA, e]), fun i hi => .inl hi, fun i hi => hi, fun hc i hi rw st' z' xs' he => ?_⟩
      · rw [← hl]; exact .own h1 set_at
      · simp only [idA, List.mem_singleton] at hi
        subst hi
        rw [set_at] at he
        have := hc i (by simp [idA]) _ _ _ _ h2
        cases he
        rw [if_neg this]; decide
end
/-- Others are as they were. -/
theorem Ext.put {H H1 H2 : AH} {l : List Nat} (h : Ext H H1) (hi : ∀ i, i ∈ l → H.n ≤ i) (hn : H1.n ≤ H2.n) (ha : ∀ i, i < H1.n → ¬ i ∈ l → H2.at' i = H1.at' i) : Ext H H2 :=
  ⟨Nat.le_trans h.n hn, fun i hi' => by rw [ha i (Nat.lt_of_lt_of_le hi' h.n) fun hm => by have := hi i hm; omega]; exact h.at' i hi'⟩
/-! Bytes. -/
theorem allU8_enc : ∀ l : List UInt8, allU8 (encB l)
  | [] => trivial
  | _ :: r => ⟨⟨_, rfl⟩, allU8_enc r⟩
theorem dec_enc : ∀ l : List UInt8, decB (encB l) = l
  | [] => rfl
  | b :: r => by
    have := dec_enc r
    simp only [encB, List.map_cons, decB] at *
    rw [this]
    simp [AV.toI]
@[simp] theorem enc_len (l : List UInt8) : (encB l).length = l.length := by simp [encB]
theorem enc_app (l m : List UInt8) : encB (l ++ m) = encB l ++ encB m := by simp [encB]
theorem enc_take (l : List UInt8) (n : Nat) : (encB l).take n = encB (l.take n) := by simp [encB, List.map_take]
theorem enc_drop (l : List UInt8) (n : Nat) : (encB l).drop n = encB (l.drop n) := by simp [encB, List.map_drop]
theorem enc_get {l : List UInt8} {i : Nat} (h : i < l.length) : (encB l).getD i .u = .i .u8 (l.getD i 0).toNat := by simp [List.getD, encB, h]
theorem enc_set {l : List UInt8} {i : Nat} {b : UInt8} : (encB l).set i (.i .u8 b.toNat) = encB (l.set i b) := by simp [encB, List.map_set]
theorem u8w (k : Nat) : IntKind.u8.wrap (k : Int) = ((UInt8.ofNat k).toNat : Int) := by
  rw [IntKind.wrap_u8]
  simp [UInt8.toNat_ofNat']
/-- Two bytes laid together. -/
theorem or_bytes (x y : UInt8) : bitw .or .i64 ((x.toNat : Int) * 256) (y.toNat : Int) = ((x.toNat * 256 + y.toNat : Nat) : Int) := by
  have hx := x.toNat_lt
  have hy := y.toNat_lt
  have e1 : ((x.toNat : Int) * 256) = ((x.toNat * 256 : Nat) : Int) := by omega
  have e2 : x.toNat * 256 ||| y.toNat = x.toNat * 256 + y.toNat := by
    have := Nat.two_pow_add_eq_or_of_lt (i := 8) (b := y.toNat) hy x.toNat
    rw [Nat.mul_comm]; exact this.symm
  unfold bitw
  simp only
  rw [e1, show IntKind.i64.bits = 64 from rfl, BitVec.ofInt_natCast, BitVec.ofInt_natCast, BitVec.toNat_or, BitVec.toNat_ofNat, BitVec.toNat_ofNat, Nat.mod_eq_of_lt (by omega), Nat.mod_eq_of_lt (by omega), e2, w64 (by omega) (by omega)]
abbrev Byt (H : AH) (a : AV) (l : List UInt8) : Prop := Sl H 1 a (encB l)
abbrev Mb (H : AH) (a : AV) (l : List UInt8) : Prop := Mn H 1 a (encB l)
section
variable {H : AH} {a : AV} {l : List UInt8}
theorem Byt.len (h : Byt H a l) : lenV a = .i .i64 l.length ∧ lenC a := by
  have := Sl.len h
  rwa [enc_len] at this
theorem Byt.cbs (h : Byt H a l) : (slOk H a ∧ slZ H 1 a ∧ allU8 (slEls H a)) ∧ AV.s (decB (slEls H a)) = .s l := by
  obtain ⟨h1, h2, h3⟩ := Sl.rd h
  rw [h3, dec_enc]; exact ⟨⟨h1, h2, allU8_enc l⟩, rfl⟩
theorem Byt.ia (h : Byt H a l) {j : Int} (h0 : 0 ≤ j) (hj : j < l.length) (L : List Lv) (g : Nat) : slZ H 1 a ∧ iaC j a ∧ ldC ⟨L, g, H⟩ none (iaV j.toNat a) ∧ ldX ⟨L, g, H⟩ none (iaV j.toNat a) = .i .u8 (l.getD j.toNat 0).toNat :=
  Sl.ia1 h h0 (by rw [enc_len]; exact hj) (by rw [enc_get (by omega)]; rfl) L g
theorem Mb.st (h : Mb H a l) {j : Int} (h0 : 0 ≤ j) (hj : j < l.length) (b : UInt8) (L : List Lv) (g : Nat) :
    slZ H 1 a ∧ iaC j a ∧ stC ⟨L, g, H⟩ (.i .u8 b.toNat) (iaV j.toNat a) ∧ ∃ H', stM ⟨L, g, H⟩ (.i .u8 b.toNat) (iaV j.toNat a) = ⟨L, g, H'⟩ ∧ Mb H' a (l.set j.toNat b) ∧ H'.n = H.n ∧ ∀ i, ¬ i ∈ idA a → H'.at' i = H.at' i := by
  have hj' : j < (encB l).length := by rw [enc_len]; exact hj
  obtain ⟨h1, h2, -⟩ := (Mn.sl h).ia h0 hj'
  have hg := enc_get (l := l) (i := j.toNat) (by omega)
  obtain ⟨h3, H', h4, h5, h6⟩ := Mn.st h h0 hj' (v := .i .u8 b.toNat) (off := 0) (by rw [hg]; exact Nat.le_refl _) L g
  rw [fa0] at h3 h4
  rw [hg, setEl_one rfl (fun cs h => by cases h), enc_set] at h5
  exact ⟨h1, h2, h3, H', h4, h5, h6⟩
end
end Go.Vm
/- Rules for a frame's own variables. -/
namespace Go.Vm
set_option linter.unusedVariables false
set_option linter.unusedSimpArgs false
section
variable {M : Mem} {t g ix off : Nat} {v : AV}
theorem la_faC : faC (.la t g ix off) := trivial
theorem la_faV {o : Nat} : faV o (.la t g ix off) = .la t g ix (off + o) := rfl
theorem la_ldC {n : Option Nat} : ldC M n (.la t g ix off) = (M.hasL t g 0 = true ∧ ix < (M.getL t g 0).length ∧ partFits ((M.getL t g 0).getD ix .u).cells off n) := rfl
theorem la_ldX {n : Option Nat} : ldX M n (.la t g ix off) = partOf ((M.getL t g 0).getD ix .u).cells off n := by
  cases n with
  | none => rfl
  | some n => cases n <;> rfl
theorem la_stC : stC M v (.la t g ix off) = (M.hasL t g 0 = true ∧ ix < (M.getL t g 0).length ∧ off + v.cells.length ≤ ((M.getL t g 0).getD ix .u).cells.length) := rfl
theorem la_stM : stM M v (.la t g ix off) = ⟨setL M.l t ((M.getL t g 0).set ix (setEl ((M.getL t g 0).getD ix .u) off v)), M.g, M.h⟩ := rfl
end
end Go.Vm
/- The rules of running, in conjunctions: what a call of simp names. Printed by wip/tools/bundle.py. -/
namespace Go.Vm
set_option linter.unusedVariables false
set_option linter.unusedSimpArgs false
set_option maxRecDepth 100000 in
theorem bS : (type_of% (@x_q)) ∧ (type_of% (@AV.isG.eq_1)) ∧ (type_of% (@AV.isG.eq_2)) ∧ (type_of% (@AV.isG.eq_3)) ∧ (type_of% (@offV.eq_1)) ∧ (type_of% (@x_o)) ∧ (type_of% (@x_b)) ∧ (type_of% (@x_k)) ∧ (type_of% (@x_x)) ∧ (type_of% (@x_r)) ∧ (type_of% (@x_i)) ∧ (type_of% (@x_p)) ∧ (type_of% (@doPs.eq_1)) ∧ (type_of% (@doPs.eq_2)) ∧ (type_of% (@doPs.eq_3)) ∧ (type_of% (@cfC.eq_1)) ∧ (type_of% (@cfC.eq_2)) ∧ (type_of% (@lgPut.eq_1)) ∧ (type_of% (@isOk.eq_1)) ∧ (type_of% (@isOk.eq_2)) ∧ (type_of% (@rv.eq_1)) ∧ (type_of% (@rv.eq_2)) ∧ (type_of% (@rh.eq_1)) ∧ (type_of% (@rh.eq_2)) ∧ (type_of% (@Bool.false_eq_true)) ∧ (type_of% (@doOs.eq_1)) ∧ (type_of% (@doOs.eq_2)) ∧ (type_of% (@doOs.eq_3)) ∧ (type_of% (@okO.eq_1)) ∧ (type_of% (@okO.eq_2)) ∧ (type_of% (@okO.eq_3)) ∧ (type_of% (@okO.eq_4)) ∧ (type_of% (@okO.eq_5)) ∧ (type_of% (@okO.eq_6)) ∧ (type_of% (@okO.eq_7)) ∧ (type_of% (@okO.eq_8)) ∧ (type_of% (@okO.eq_9)) ∧ (type_of% (@okO.eq_10)) ∧ (type_of% (@okO.eq_11)) ∧ (type_of% (@okO.eq_12)) ∧ (type_of% (@okO.eq_13)) ∧ (type_of% (@okO.eq_14)) ∧ (type_of% (@okO.eq_15)) ∧ (type_of% (@okO.eq_16)) ∧ (type_of% (@okO.eq_17)) ∧ (type_of% (@okO.eq_18)) ∧ (type_of% (@okO.eq_19)) ∧ (type_of% (@okO.eq_20)) ∧ (type_of% (@okO.eq_21)) ∧ (type_of% (@okO.eq_22)) ∧ (type_of% (@okO.eq_23)) ∧ (type_of% (@okO.eq_24)) ∧ (type_of% (@okO.eq_25)) ∧ (type_of% (@okO.eq_26)) ∧ (type_of% (@okO.eq_27)) ∧ (type_of% (@okO.eq_28)) ∧ (type_of% (@okO.eq_29)) ∧ (type_of% (@okO.eq_30)) ∧ (type_of% (@okO.eq_31)) ∧ (type_of% (@okO.eq_32)) ∧ (type_of% (@okO.eq_33)) ∧ (type_of% (@okO.eq_34)) ∧ (type_of% (@okO.eq_35)) ∧ (type_of% (@okO.eq_36)) ∧ (type_of% (@okO.eq_37)) ∧ (type_of% (@okO.eq_38)) ∧ (type_of% (@okO.eq_39)) ∧ (type_of% (@okO.eq_40)) ∧ (type_of% (@okO.eq_41)) ∧ (type_of% (@okO.eq_42)) ∧ (type_of% (@okO.eq_43)) ∧ (type_of% (@okO.eq_44)) ∧ (type_of% (@okO.eq_45)) ∧ (type_of% (@okO.eq_46)) ∧ (type_of% (@okO.eq_47)) ∧ (type_of% (@vlO.eq_1)) ∧ (type_of% (@vlO.eq_2)) ∧ (type_of% (@vlO.eq_3)) ∧ (type_of% (@vlO.eq_4)) ∧ (type_of% (@vlO.eq_5)) ∧ (type_of% (@vlO.eq_6)) ∧ (type_of% (@vlO.eq_7)) ∧ (type_of% (@vlO.eq_8)) ∧ (type_of% (@vlO.eq_9)) ∧ (type_of% (@vlO.eq_10)) ∧ (type_of% (@vlO.eq_11)) ∧ (type_of% (@vlO.eq_12)) ∧ (type_of% (@vlO.eq_13)) ∧ (type_of% (@vlO.eq_14)) ∧ (type_of% (@vlO.eq_15)) ∧ (type_of% (@vlO.eq_16)) ∧ (type_of% (@vlO.eq_17)) ∧ (type_of% (@vlO.eq_18)) ∧ (type_of% (@vlO.eq_19)) ∧ (type_of% (@vlO.eq_20)) ∧ (type_of% (@vlO.eq_21)) ∧ (type_of% (@vlO.eq_22)) ∧ (type_of% (@vlO.eq_23)) ∧ (type_of% (@vlO.eq_24)) ∧ (type_of% (@vlO.eq_25)) ∧ (type_of% (@vlO.eq_26)) ∧ (type_of% (@vlO.eq_27)) ∧ (type_of% (@vlO.eq_28)) ∧ (type_of% (@vlO.eq_29)) ∧ (type_of% (@vlO.eq_30)) ∧ (type_of% (@vlO.eq_31)) ∧ (type_of% (@vlO.eq_32)) ∧ (type_of% (@vlO.eq_33)) ∧ (type_of% (@vlO.eq_34)) ∧ (type_of% (@vlO.eq_35)) ∧ (type_of% (@vlO.eq_36)) ∧ (type_of% (@vlO.eq_37)) ∧ (type_of% (@vlO.eq_38)) ∧ (type_of% (@vlO.eq_39)) ∧ (type_of% (@vlO.eq_40)) ∧ (type_of% (@vlO.eq_41)) ∧ (type_of% (@vlO.eq_42)) ∧ (type_of% (@vlO.eq_43)) ∧ (type_of% (@vlO.eq_44)) ∧ (type_of% (@vlO.eq_45)) ∧ (type_of% (@vlO.eq_46)) ∧ (type_of% (@vlO.eq_47)) ∧ (type_of% (@mmO.eq_1)) ∧ (type_of% (@mmO.eq_2)) ∧ (type_of% (@mmO.eq_3)) ∧ (type_of% (@mmO.eq_4)) ∧ (type_of% (@mmO.eq_5)) ∧ (type_of% (@mmO.eq_6)) ∧ (type_of% (@mmO.eq_7)) ∧ (type_of% (@mmO.eq_8)) ∧ (type_of% (@mmO.eq_9)) ∧ (type_of% (@mmO.eq_10)) ∧ (type_of% (@mmO.eq_11)) ∧ (type_of% (@mmO.eq_12)) ∧ (type_of% (@mmO.eq_13)) ∧ (type_of% (@mmO.eq_14)) ∧ (type_of% (@mmO.eq_15)) ∧ (type_of% (@mmO.eq_16)) ∧ (type_of% (@mmO.eq_17)) ∧ (type_of% (@mmO.eq_18)) ∧ (type_of% (@mmO.eq_19)) ∧ (type_of% (@dsO.eq_1)) ∧ (type_of% (@dsO.eq_2)) ∧ (type_of% (@dsO.eq_3)) ∧ (type_of% (@dsO.eq_4)) ∧ (type_of% (@dsO.eq_5)) ∧ (type_of% (@dsO.eq_6)) ∧ (type_of% (@dsO.eq_7)) ∧ (type_of% (@dsO.eq_8)) ∧ (type_of% (@dsO.eq_9)) ∧ (type_of% (@dsO.eq_10)) ∧ (type_of% (@dsO.eq_11)) ∧ (type_of% (@dsO.eq_12)) ∧ (type_of% (@dsO.eq_13)) ∧ (type_of% (@dsO.eq_14)) ∧ (type_of% (@dsO.eq_15)) ∧ (type_of% (@dsO.eq_16)) ∧ (type_of% (@dsO.eq_17)) ∧ (type_of% (@dsO.eq_18)) ∧ (type_of% (@dsO.eq_19)) ∧ (type_of% (@dsO.eq_20)) ∧ (type_of% (@dsO.eq_21)) ∧ (type_of% (@dsO.eq_22)) ∧ (type_of% (@dsO.eq_23)) ∧ (type_of% (@dsO.eq_24)) ∧ (type_of% (@dsO.eq_25)) ∧ (type_of% (@dsO.eq_26)) ∧ (type_of% (@dsO.eq_27)) ∧ (type_of% (@dsO.eq_28)) ∧ (type_of% (@dsO.eq_29)) ∧ (type_of% (@dsO.eq_30)) ∧ (type_of% (@dsO.eq_31)) ∧ (type_of% (@dsO.eq_32)) ∧ (type_of% (@dsO.eq_33)) ∧ (type_of% (@dsO.eq_34)) ∧ (type_of% (@dsO.eq_35)) ∧ (type_of% (@dsO.eq_36)) ∧ (type_of% (@dsO.eq_37)) ∧ (type_of% (@dsO.eq_38)) ∧ (type_of% (@dsO.eq_39)) ∧ (type_of% (@dsO.eq_40)) ∧ (type_of% (@dsO.eq_41)) ∧ (type_of% (@dsO.eq_42)) ∧ (type_of% (@dsO.eq_43)) ∧ (type_of% (@dsO.eq_44)) ∧ (type_of% (@dsO.eq_45)) ∧ (type_of% (@dsO.eq_46)) ∧ (type_of% (@dsO.eq_47)) ∧ (type_of% (@putE.eq_1)) ∧ (type_of% (@putE.eq_2)) ∧ (type_of% (@args.eq_1)) ∧ (type_of% (@args.eq_2)) ∧ (type_of% (@evT.eq_1)) ∧ (type_of% (@evT.eq_2)) ∧ (type_of% (@evT.eq_3)) ∧ (type_of% (@evT.eq_4)) ∧ (type_of% (@evs.eq_1)) ∧ (type_of% (@evs.eq_2)) ∧ (type_of% (@evO.eq_1)) ∧ (type_of% (@evO.eq_2)) ∧ (type_of% (@look.eq_1)) ∧ (type_of% (@look.eq_2)) ∧ (type_of% (@kOps.eq_1)) ∧ (type_of% (@kSeq.eq_1)) ∧ (type_of% (@kSeq.eq_2)) ∧ (type_of% (@kBlk.eq_1)) ∧ (type_of% (@kBlk.eq_2)) ∧ (type_of% (@keepE.eq_1)) ∧ (type_of% (@keepE.eq_2)) ∧ (type_of% (@binC.eq_1)) ∧ (type_of% (@binC.eq_2)) ∧ (type_of% (@binC.eq_3)) ∧ (type_of% (@binV.eq_1)) ∧ (type_of% (@binV.eq_2)) ∧ (type_of% (@binV.eq_3)) ∧ (type_of% (@intC.eq_1)) ∧ (type_of% (@intC.eq_2)) ∧ (type_of% (@intC.eq_3)) ∧ (type_of% (@intC.eq_4)) ∧ (type_of% (@intC.eq_5)) ∧ (type_of% (@intV.eq_1)) ∧ (type_of% (@intV.eq_2)) ∧ (type_of% (@intV.eq_3)) ∧ (type_of% (@intV.eq_4)) ∧ (type_of% (@intV.eq_5)) ∧ (type_of% (@intV.eq_6)) ∧ (type_of% (@intV.eq_7)) ∧ (type_of% (@intV.eq_8)) ∧ (type_of% (@intV.eq_9)) ∧ (type_of% (@intV.eq_10)) ∧ (type_of% (@intV.eq_11)) ∧ (type_of% (@intV.eq_12)) ∧ (type_of% (@intV.eq_13)) ∧ (type_of% (@intV.eq_14)) ∧ (type_of% (@strC.eq_1)) ∧ (type_of% (@strC.eq_2)) ∧ (type_of% (@strC.eq_3)) ∧ (type_of% (@strC.eq_4)) ∧ (type_of% (@strC.eq_5)) ∧ (type_of% (@strC.eq_6)) ∧ (type_of% (@strC.eq_7)) ∧ (type_of% (@strC.eq_8)) ∧ (type_of% (@strV.eq_1)) ∧ (type_of% (@strV.eq_2)) ∧ (type_of% (@strV.eq_3)) ∧ (type_of% (@strV.eq_4)) ∧ (type_of% (@strV.eq_5)) ∧ (type_of% (@strV.eq_6)) ∧ (type_of% (@strV.eq_7)) ∧ (type_of% (@strV.eq_8)) ∧ (type_of% (@unC.eq_1)) ∧ (type_of% (@unC.eq_2)) ∧ (type_of% (@unC.eq_3)) ∧ (type_of% (@unV.eq_1)) ∧ (type_of% (@unV.eq_2)) ∧ (type_of% (@unV.eq_3)) ∧ (type_of% (@unV.eq_4)) ∧ (type_of% (@AV.isI.eq_1)) ∧ (type_of% (@AV.isI.eq_2)) ∧ (type_of% (@AV.isB.eq_1)) ∧ (type_of% (@AV.isB.eq_2)) ∧ (type_of% (@AV.isS.eq_1)) ∧ (type_of% (@AV.isS.eq_2)) ∧ (type_of% (@AV.toI.eq_1)) ∧ (type_of% (@AV.toI.eq_2)) ∧ (type_of% (@AV.toK.eq_1)) ∧ (type_of% (@AV.toK.eq_2)) ∧ (type_of% (@AV.toS.eq_1)) ∧ (type_of% (@AV.toS.eq_2)) ∧ (type_of% (@allOut.eq_1)) ∧ (type_of% (@allOut.eq_2)) ∧ (type_of% (@o_b)) ∧ (type_of% (@o_i)) ∧ (type_of% (@o_s)) ∧ (type_of% (@o_np)) ∧ (type_of% (@o_pv)) ∧ (type_of% (@o_pe)) ∧ (type_of% (@o_ns)) ∧ (type_of% (@o_sl)) ∧ (type_of% (@o_nm)) ∧ (type_of% (@o_mp)) ∧ (type_of% (@o_nf)) ∧ (type_of% (@o_fn)) ∧ (type_of% (@o_ag)) ∧ (type_of% (@q_b)) ∧ (type_of% (@q_i)) ∧ (type_of% (@q_s)) ∧ (type_of% (@q_np)) ∧ (type_of% (@q_pv)) ∧ (type_of% (@q_pe)) ∧ (type_of% (@q_ns)) ∧ (type_of% (@q_sl)) ∧ (type_of% (@q_nm)) ∧ (type_of% (@q_mp)) ∧ (type_of% (@q_nf)) ∧ (type_of% (@q_fn)) ∧ (type_of% (@q_ag)) ∧ (type_of% (@Bool.and_true)) ∧ (type_of% (@Bool.and_self)) ∧ (type_of% (@Bool.true_and)) ∧ (type_of% (@AV.b.injEq)) ∧ (type_of% (@decide_eq_true_eq)) ∧ (type_of% (@decide_eq_false_iff_not)) ∧ (type_of% (@true_and)) ∧ (type_of% (@and_true)) ∧ (type_of% (@and_self)) :=
  ⟨@x_q, @AV.isG.eq_1, @AV.isG.eq_2, @AV.isG.eq_3, @offV.eq_1, @x_o, @x_b, @x_k, @x_x, @x_r, @x_i, @x_p, @doPs.eq_1, @doPs.eq_2, @doPs.eq_3, @cfC.eq_1, @cfC.eq_2, @lgPut.eq_1, @isOk.eq_1, @isOk.eq_2, @rv.eq_1, @rv.eq_2, @rh.eq_1, @rh.eq_2, @Bool.false_eq_true, @doOs.eq_1, @doOs.eq_2, @doOs.eq_3, @okO.eq_1, @okO.eq_2, @okO.eq_3, @okO.eq_4, @okO.eq_5, @okO.eq_6, @okO.eq_7, @okO.eq_8, @okO.eq_9, @okO.eq_10, @okO.eq_11, @okO.eq_12, @okO.eq_13, @okO.eq_14, @okO.eq_15, @okO.eq_16, @okO.eq_17, @okO.eq_18, @okO.eq_19, @okO.eq_20, @okO.eq_21, @okO.eq_22, @okO.eq_23, @okO.eq_24, @okO.eq_25, @okO.eq_26, @okO.eq_27, @okO.eq_28, @okO.eq_29, @okO.eq_30, @okO.eq_31, @okO.eq_32, @okO.eq_33, @okO.eq_34, @okO.eq_35, @okO.eq_36, @okO.eq_37, @okO.eq_38, @okO.eq_39, @okO.eq_40, @okO.eq_41, @okO.eq_42, @okO.eq_43, @okO.eq_44, @okO.eq_45, @okO.eq_46, @okO.eq_47, @vlO.eq_1, @vlO.eq_2, @vlO.eq_3, @vlO.eq_4, @vlO.eq_5, @vlO.eq_6, @vlO.eq_7, @vlO.eq_8, @vlO.eq_9, @vlO.eq_10, @vlO.eq_11, @vlO.eq_12, @vlO.eq_13, @vlO.eq_14, @vlO.eq_15, @vlO.eq_16, @vlO.eq_17, @vlO.eq_18, @vlO.eq_19, @vlO.eq_20, @vlO.eq_21, @vlO.eq_22, @vlO.eq_23, @vlO.eq_24, @vlO.eq_25, @vlO.eq_26, @vlO.eq_27, @vlO.eq_28, @vlO.eq_29, @vlO.eq_30, @vlO.eq_31, @vlO.eq_32, @vlO.eq_33, @vlO.eq_34, @vlO.eq_35, @vlO.eq_36, @vlO.eq_37, @vlO.eq_38, @vlO.eq_39, @vlO.eq_40, @vlO.eq_41, @vlO.eq_42, @vlO.eq_43, @vlO.eq_44, @vlO.eq_45, @vlO.eq_46, @vlO.eq_47, @mmO.eq_1, @mmO.eq_2, @mmO.eq_3, @mmO.eq_4, @mmO.eq_5, @mmO.eq_6, @mmO.eq_7, @mmO.eq_8, @mmO.eq_9, @mmO.eq_10, @mmO.eq_11, @mmO.eq_12, @mmO.eq_13, @mmO.eq_14, @mmO.eq_15, @mmO.eq_16, @mmO.eq_17, @mmO.eq_18, @mmO.eq_19, @dsO.eq_1, @dsO.eq_2, @dsO.eq_3, @dsO.eq_4, @dsO.eq_5, @dsO.eq_6, @dsO.eq_7, @dsO.eq_8, @dsO.eq_9, @dsO.eq_10, @dsO.eq_11, @dsO.eq_12, @dsO.eq_13, @dsO.eq_14, @dsO.eq_15, @dsO.eq_16, @dsO.eq_17, @dsO.eq_18, @dsO.eq_19, @dsO.eq_20, @dsO.eq_21, @dsO.eq_22, @dsO.eq_23, @dsO.eq_24, @dsO.eq_25, @dsO.eq_26, @dsO.eq_27, @dsO.eq_28, @dsO.eq_29, @dsO.eq_30, @dsO.eq_31, @dsO.eq_32, @dsO.eq_33, @dsO.eq_34, @dsO.eq_35, @dsO.eq_36, @dsO.eq_37, @dsO.eq_38, @dsO.eq_39, @dsO.eq_40, @dsO.eq_41, @dsO.eq_42, @dsO.eq_43, @dsO.eq_44, @dsO.eq_45, @dsO.eq_46, @dsO.eq_47, @putE.eq_1, @putE.eq_2, @args.eq_1, @args.eq_2, @evT.eq_1, @evT.eq_2, @evT.eq_3, @evT.eq_4, @evs.eq_1, @evs.eq_2, @evO.eq_1, @evO.eq_2, @look.eq_1, @look.eq_2, @kOps.eq_1, @kSeq.eq_1, @kSeq.eq_2, @kBlk.eq_1, @kBlk.eq_2, @keepE.eq_1, @keepE.eq_2, @binC.eq_1, @binC.eq_2, @binC.eq_3, @binV.eq_1, @binV.eq_2, @binV.eq_3, @intC.eq_1, @intC.eq_2, @intC.eq_3, @intC.eq_4, @intC.eq_5, @intV.eq_1, @intV.eq_2, @intV.eq_3, @intV.eq_4, @intV.eq_5, @intV.eq_6, @intV.eq_7, @intV.eq_8, @intV.eq_9, @intV.eq_10, @intV.eq_11, @intV.eq_12, @intV.eq_13, @intV.eq_14, @strC.eq_1, @strC.eq_2, @strC.eq_3, @strC.eq_4, @strC.eq_5, @strC.eq_6, @strC.eq_7, @strC.eq_8, @strV.eq_1, @strV.eq_2, @strV.eq_3, @strV.eq_4, @strV.eq_5, @strV.eq_6, @strV.eq_7, @strV.eq_8, @unC.eq_1, @unC.eq_2, @unC.eq_3, @unV.eq_1, @unV.eq_2, @unV.eq_3, @unV.eq_4, @AV.isI.eq_1, @AV.isI.eq_2, @AV.isB.eq_1, @AV.isB.eq_2, @AV.isS.eq_1, @AV.isS.eq_2, @AV.toI.eq_1, @AV.toI.eq_2, @AV.toK.eq_1, @AV.toK.eq_2, @AV.toS.eq_1, @AV.toS.eq_2, @allOut.eq_1, @allOut.eq_2, @o_b, @o_i, @o_s, @o_np, @o_pv, @o_pe, @o_ns, @o_sl, @o_nm, @o_mp, @o_nf, @o_fn, @o_ag, @q_b, @q_i, @q_s, @q_np, @q_pv, @q_pe, @q_ns, @q_sl, @q_nm, @q_mp, @q_nf, @q_fn, @q_ag, @Bool.and_true, @Bool.and_self, @Bool.true_and, @AV.b.injEq, @decide_eq_true_eq, @decide_eq_false_iff_not, @true_and, @and_true, @and_self⟩
set_option maxRecDepth 100000 in
theorem bU : (type_of% (@x_q)) ∧ (type_of% (@x_o)) ∧ (type_of% (@x_b)) ∧ (type_of% (@x_k)) ∧ (type_of% (@x_x)) ∧ (type_of% (@x_r)) ∧ (type_of% (@x_it)) ∧ (type_of% (@x_if)) ∧ (type_of% (@x_p)) ∧ (type_of% (@p_nil)) ∧ (type_of% (@p_on)) ∧ (type_of% (@p_off)) ∧ (type_of% (@p_un0)) ∧ (type_of% (@p_mv)) ∧ (type_of% (@p_pk)) ∧ (type_of% (@p_bn)) ∧ (type_of% (@p_un)) ∧ (type_of% (@p_be)) ∧ (type_of% (@p_nl)) ∧ (type_of% (@p_eqa)) ∧ (type_of% (@p_ci)) ∧ (type_of% (@p_cbs)) ∧ (type_of% (@p_csb)) ∧ (type_of% (@p_ex)) ∧ (type_of% (@p_bd)) ∧ (type_of% (@p_fd)) ∧ (type_of% (@p_ix)) ∧ (type_of% (@p_ixa)) ∧ (type_of% (@p_ss)) ∧ (type_of% (@p_sl)) ∧ (type_of% (@p_sla)) ∧ (type_of% (@p_ln)) ∧ (type_of% (@p_lns)) ∧ (type_of% (@p_lnm)) ∧ (type_of% (@p_al)) ∧ (type_of% (@p_bx)) ∧ (type_of% (@p_lal)) ∧ (type_of% (@p_lbx)) ∧ (type_of% (@p_ld)) ∧ (type_of% (@p_st)) ∧ (type_of% (@p_fa)) ∧ (type_of% (@p_ia)) ∧ (type_of% (@p_iaa)) ∧ (type_of% (@p_bs)) ∧ (type_of% (@p_lbs)) ∧ (type_of% (@p_mk)) ∧ (type_of% (@p_ap)) ∧ (type_of% (@p_cp)) ∧ (type_of% (@p_cl)) ∧ (type_of% (@p_cv)) ∧ (type_of% (@p_mf)) ∧ (type_of% (@p_nc)) ∧ (type_of% (@p_mm)) ∧ (type_of% (@p_mkm)) ∧ (type_of% (@p_lk)) ∧ (type_of% (@p_mu)) ∧ (type_of% (@p_dl)) ∧ (type_of% (@p_rs)) ∧ (type_of% (@p_nx)) ∧ (type_of% (@cfC.eq_1)) ∧ (type_of% (@cfC.eq_2)) ∧ (type_of% (@lgPut.eq_1)) ∧ (type_of% (@isOk.eq_1)) ∧ (type_of% (@isOk.eq_2)) ∧ (type_of% (@rv.eq_1)) ∧ (type_of% (@rv.eq_2)) ∧ (type_of% (@rh.eq_1)) ∧ (type_of% (@rh.eq_2)) ∧ (type_of% (@Bool.false_eq_true)) ∧ (type_of% (@d_nil)) ∧ (type_of% (@d_on)) ∧ (type_of% (@d_off)) ∧ (type_of% (@d_un0)) ∧ (type_of% (@d_mv)) ∧ (type_of% (@d_pk)) ∧ (type_of% (@d_bn)) ∧ (type_of% (@d_un)) ∧ (type_of% (@d_be)) ∧ (type_of% (@d_nl)) ∧ (type_of% (@d_eqa)) ∧ (type_of% (@d_ci)) ∧ (type_of% (@d_cbs)) ∧ (type_of% (@d_csb)) ∧ (type_of% (@d_ex)) ∧ (type_of% (@d_bd)) ∧ (type_of% (@d_fd)) ∧ (type_of% (@d_ix)) ∧ (type_of% (@d_ixa)) ∧ (type_of% (@d_ss)) ∧ (type_of% (@d_sl)) ∧ (type_of% (@d_sla)) ∧ (type_of% (@d_ln)) ∧ (type_of% (@d_lns)) ∧ (type_of% (@d_lnm)) ∧ (type_of% (@d_al)) ∧ (type_of% (@d_bx)) ∧ (type_of% (@d_lal)) ∧ (type_of% (@d_lbx)) ∧ (type_of% (@d_ld)) ∧ (type_of% (@d_st)) ∧ (type_of% (@d_fa)) ∧ (type_of% (@d_ia)) ∧ (type_of% (@d_iaa)) ∧ (type_of% (@d_bs)) ∧ (type_of% (@d_lbs)) ∧ (type_of% (@d_mk)) ∧ (type_of% (@d_ap)) ∧ (type_of% (@d_cp)) ∧ (type_of% (@d_cl)) ∧ (type_of% (@d_cv)) ∧ (type_of% (@d_mf)) ∧ (type_of% (@d_nc)) ∧ (type_of% (@d_mm)) ∧ (type_of% (@d_mkm)) ∧ (type_of% (@d_lk)) ∧ (type_of% (@d_mu)) ∧ (type_of% (@d_dl)) ∧ (type_of% (@d_rs)) ∧ (type_of% (@d_nx)) ∧ (type_of% (@okO.eq_1)) ∧ (type_of% (@okO.eq_2)) ∧ (type_of% (@okO.eq_3)) ∧ (type_of% (@okO.eq_4)) ∧ (type_of% (@okO.eq_5)) ∧ (type_of% (@okO.eq_6)) ∧ (type_of% (@okO.eq_7)) ∧ (type_of% (@okO.eq_8)) ∧ (type_of% (@okO.eq_9)) ∧ (type_of% (@okO.eq_10)) ∧ (type_of% (@okO.eq_11)) ∧ (type_of% (@okO.eq_12)) ∧ (type_of% (@okO.eq_13)) ∧ (type_of% (@okO.eq_14)) ∧ (type_of% (@okO.eq_15)) ∧ (type_of% (@okO.eq_16)) ∧ (type_of% (@okO.eq_17)) ∧ (type_of% (@okO.eq_18)) ∧ (type_of% (@okO.eq_19)) ∧ (type_of% (@okO.eq_20)) ∧ (type_of% (@okO.eq_21)) ∧ (type_of% (@okO.eq_22)) ∧ (type_of% (@okO.eq_23)) ∧ (type_of% (@okO.eq_24)) ∧ (type_of% (@okO.eq_25)) ∧ (type_of% (@okO.eq_26)) ∧ (type_of% (@okO.eq_27)) ∧ (type_of% (@okO.eq_28)) ∧ (type_of% (@okO.eq_29)) ∧ (type_of% (@okO.eq_30)) ∧ (type_of% (@okO.eq_31)) ∧ (type_of% (@okO.eq_32)) ∧ (type_of% (@okO.eq_33)) ∧ (type_of% (@okO.eq_34)) ∧ (type_of% (@okO.eq_35)) ∧ (type_of% (@okO.eq_36)) ∧ (type_of% (@okO.eq_37)) ∧ (type_of% (@okO.eq_38)) ∧ (type_of% (@okO.eq_39)) ∧ (type_of% (@okO.eq_40)) ∧ (type_of% (@okO.eq_41)) ∧ (type_of% (@okO.eq_42)) ∧ (type_of% (@okO.eq_43)) ∧ (type_of% (@okO.eq_44)) ∧ (type_of% (@okO.eq_45)) ∧ (type_of% (@okO.eq_46)) ∧ (type_of% (@okO.eq_47)) ∧ (type_of% (@vlO.eq_1)) ∧ (type_of% (@vlO.eq_2)) ∧ (type_of% (@vlO.eq_3)) ∧ (type_of% (@vlO.eq_4)) ∧ (type_of% (@vlO.eq_5)) ∧ (type_of% (@vlO.eq_6)) ∧ (type_of% (@vlO.eq_7)) ∧ (type_of% (@vlO.eq_8)) ∧ (type_of% (@vlO.eq_9)) ∧ (type_of% (@vlO.eq_10)) ∧ (type_of% (@vlO.eq_11)) ∧ (type_of% (@vlO.eq_12)) ∧ (type_of% (@vlO.eq_13)) ∧ (type_of% (@vlO.eq_14)) ∧ (type_of% (@vlO.eq_15)) ∧ (type_of% (@vlO.eq_16)) ∧ (type_of% (@vlO.eq_17)) ∧ (type_of% (@vlO.eq_18)) ∧ (type_of% (@vlO.eq_19)) ∧ (type_of% (@vlO.eq_20)) ∧ (type_of% (@vlO.eq_21)) ∧ (type_of% (@vlO.eq_22)) ∧ (type_of% (@vlO.eq_23)) ∧ (type_of% (@vlO.eq_24)) ∧ (type_of% (@vlO.eq_25)) ∧ (type_of% (@vlO.eq_26)) ∧ (type_of% (@vlO.eq_27)) ∧ (type_of% (@vlO.eq_28)) ∧ (type_of% (@vlO.eq_29)) ∧ (type_of% (@vlO.eq_30)) ∧ (type_of% (@vlO.eq_31)) ∧ (type_of% (@vlO.eq_32)) ∧ (type_of% (@vlO.eq_33)) ∧ (type_of% (@vlO.eq_34)) ∧ (type_of% (@vlO.eq_35)) ∧ (type_of% (@vlO.eq_36)) ∧ (type_of% (@vlO.eq_37)) ∧ (type_of% (@vlO.eq_38)) ∧ (type_of% (@vlO.eq_39)) ∧ (type_of% (@vlO.eq_40)) ∧ (type_of% (@vlO.eq_41)) ∧ (type_of% (@vlO.eq_42)) ∧ (type_of% (@vlO.eq_43)) ∧ (type_of% (@vlO.eq_44)) ∧ (type_of% (@vlO.eq_45)) ∧ (type_of% (@vlO.eq_46)) ∧ (type_of% (@vlO.eq_47)) ∧ (type_of% (@mmO.eq_1)) ∧ (type_of% (@mmO.eq_2)) ∧ (type_of% (@mmO.eq_3)) ∧ (type_of% (@mmO.eq_4)) ∧ (type_of% (@mmO.eq_5)) ∧ (type_of% (@mmO.eq_6)) ∧ (type_of% (@mmO.eq_7)) ∧ (type_of% (@mmO.eq_8)) ∧ (type_of% (@mmO.eq_9)) ∧ (type_of% (@mmO.eq_10)) ∧ (type_of% (@mmO.eq_11)) ∧ (type_of% (@mmO.eq_12)) ∧ (type_of% (@mmO.eq_13)) ∧ (type_of% (@mmO.eq_14)) ∧ (type_of% (@mmO.eq_15)) ∧ (type_of% (@mmO.eq_16)) ∧ (type_of% (@mmO.eq_17)) ∧ (type_of% (@mmO.eq_18)) ∧ (type_of% (@mmO.eq_19)) ∧ (type_of% (@dsO.eq_1)) ∧ (type_of% (@dsO.eq_2)) ∧ (type_of% (@dsO.eq_3)) ∧ (type_of% (@dsO.eq_4)) ∧ (type_of% (@dsO.eq_5)) ∧ (type_of% (@dsO.eq_6)) ∧ (type_of% (@dsO.eq_7)) ∧ (type_of% (@dsO.eq_8)) ∧ (type_of% (@dsO.eq_9)) ∧ (type_of% (@dsO.eq_10)) ∧ (type_of% (@dsO.eq_11)) ∧ (type_of% (@dsO.eq_12)) ∧ (type_of% (@dsO.eq_13)) ∧ (type_of% (@dsO.eq_14)) ∧ (type_of% (@dsO.eq_15)) ∧ (type_of% (@dsO.eq_16)) ∧ (type_of% (@dsO.eq_17)) ∧ (type_of% (@dsO.eq_18)) ∧ (type_of% (@dsO.eq_19)) ∧ (type_of% (@dsO.eq_20)) ∧ (type_of% (@dsO.eq_21)) ∧ (type_of% (@dsO.eq_22)) ∧ (type_of% (@dsO.eq_23)) ∧ (type_of% (@dsO.eq_24)) ∧ (type_of% (@dsO.eq_25)) ∧ (type_of% (@dsO.eq_26)) ∧ (type_of% (@dsO.eq_27)) ∧ (type_of% (@dsO.eq_28)) ∧ (type_of% (@dsO.eq_29)) ∧ (type_of% (@dsO.eq_30)) ∧ (type_of% (@dsO.eq_31)) ∧ (type_of% (@dsO.eq_32)) ∧ (type_of% (@dsO.eq_33)) ∧ (type_of% (@dsO.eq_34)) ∧ (type_of% (@dsO.eq_35)) ∧ (type_of% (@dsO.eq_36)) ∧ (type_of% (@dsO.eq_37)) ∧ (type_of% (@dsO.eq_38)) ∧ (type_of% (@dsO.eq_39)) ∧ (type_of% (@dsO.eq_40)) ∧ (type_of% (@dsO.eq_41)) ∧ (type_of% (@dsO.eq_42)) ∧ (type_of% (@dsO.eq_43)) ∧ (type_of% (@dsO.eq_44)) ∧ (type_of% (@dsO.eq_45)) ∧ (type_of% (@dsO.eq_46)) ∧ (type_of% (@dsO.eq_47)) ∧ (type_of% (@putE.eq_1)) ∧ (type_of% (@putE.eq_2)) ∧ (type_of% (@args.eq_1)) ∧ (type_of% (@args.eq_2)) ∧ (type_of% (@evT.eq_1)) ∧ (type_of% (@evT.eq_2)) ∧ (type_of% (@evT.eq_3)) ∧ (type_of% (@evT.eq_4)) ∧ (type_of% (@evs.eq_1)) ∧ (type_of% (@evs.eq_2)) ∧ (type_of% (@evO.eq_1)) ∧ (type_of% (@evO.eq_2)) ∧ (type_of% (@look.eq_1)) ∧ (type_of% (@look.eq_2)) ∧ (type_of% (@kOps.eq_1)) ∧ (type_of% (@kSeq.eq_1)) ∧ (type_of% (@kSeq.eq_2)) ∧ (type_of% (@kBlk.eq_1)) ∧ (type_of% (@kBlk.eq_2)) ∧ (type_of% (@keepE.eq_1)) ∧ (type_of% (@keepE.eq_2)) ∧ (type_of% (@binC.eq_1)) ∧ (type_of% (@binC.eq_2)) ∧ (type_of% (@binC.eq_3)) ∧ (type_of% (@binV.eq_1)) ∧ (type_of% (@binV.eq_2)) ∧ (type_of% (@binV.eq_3)) ∧ (type_of% (@intC.eq_1)) ∧ (type_of% (@intC.eq_2)) ∧ (type_of% (@intC.eq_3)) ∧ (type_of% (@intC.eq_4)) ∧ (type_of% (@intC.eq_5)) ∧ (type_of% (@intV.eq_1)) ∧ (type_of% (@intV.eq_2)) ∧ (type_of% (@intV.eq_3)) ∧ (type_of% (@intV.eq_4)) ∧ (type_of% (@intV.eq_5)) ∧ (type_of% (@intV.eq_6)) ∧ (type_of% (@intV.eq_7)) ∧ (type_of% (@intV.eq_8)) ∧ (type_of% (@intV.eq_9)) ∧ (type_of% (@intV.eq_10)) ∧ (type_of% (@intV.eq_11)) ∧ (type_of% (@intV.eq_12)) ∧ (type_of% (@intV.eq_13)) ∧ (type_of% (@intV.eq_14)) ∧ (type_of% (@strC.eq_1)) ∧ (type_of% (@strC.eq_2)) ∧ (type_of% (@strC.eq_3)) ∧ (type_of% (@strC.eq_4)) ∧ (type_of% (@strC.eq_5)) ∧ (type_of% (@strC.eq_6)) ∧ (type_of% (@strC.eq_7)) ∧ (type_of% (@strC.eq_8)) ∧ (type_of% (@strV.eq_1)) ∧ (type_of% (@strV.eq_2)) ∧ (type_of% (@strV.eq_3)) ∧ (type_of% (@strV.eq_4)) ∧ (type_of% (@strV.eq_5)) ∧ (type_of% (@strV.eq_6)) ∧ (type_of% (@strV.eq_7)) ∧ (type_of% (@strV.eq_8)) ∧ (type_of% (@unC.eq_1)) ∧ (type_of% (@unC.eq_2)) ∧ (type_of% (@unC.eq_3)) ∧ (type_of% (@unV.eq_1)) ∧ (type_of% (@unV.eq_2)) ∧ (type_of% (@unV.eq_3)) ∧ (type_of% (@unV.eq_4)) ∧ (type_of% (@AV.isI.eq_1)) ∧ (type_of% (@AV.isI.eq_2)) ∧ (type_of% (@AV.isB.eq_1)) ∧ (type_of% (@AV.isB.eq_2)) ∧ (type_of% (@AV.isS.eq_1)) ∧ (type_of% (@AV.isS.eq_2)) ∧ (type_of% (@AV.toI.eq_1)) ∧ (type_of% (@AV.toI.eq_2)) ∧ (type_of% (@AV.toK.eq_1)) ∧ (type_of% (@AV.toK.eq_2)) ∧ (type_of% (@AV.toS.eq_1)) ∧ (type_of% (@AV.toS.eq_2)) ∧ (type_of% (@allOut.eq_1)) ∧ (type_of% (@allOut.eq_2)) ∧ (type_of% (@o_b)) ∧ (type_of% (@o_i)) ∧ (type_of% (@o_s)) ∧ (type_of% (@o_np)) ∧ (type_of% (@o_pv)) ∧ (type_of% (@o_pe)) ∧ (type_of% (@o_ns)) ∧ (type_of% (@o_sl)) ∧ (type_of% (@o_nm)) ∧ (type_of% (@o_mp)) ∧ (type_of% (@o_nf)) ∧ (type_of% (@o_fn)) ∧ (type_of% (@o_ag)) ∧ (type_of% (@q_b)) ∧ (type_of% (@q_i)) ∧ (type_of% (@q_s)) ∧ (type_of% (@q_np)) ∧ (type_of% (@q_pv)) ∧ (type_of% (@q_pe)) ∧ (type_of% (@q_ns)) ∧ (type_of% (@q_sl)) ∧ (type_of% (@q_nm)) ∧ (type_of% (@q_mp)) ∧ (type_of% (@q_nf)) ∧ (type_of% (@q_fn)) ∧ (type_of% (@q_ag)) ∧ (type_of% (@Bool.and_true)) ∧ (type_of% (@Bool.and_self)) ∧ (type_of% (@Bool.true_and)) ∧ (type_of% (@AV.b.injEq)) ∧ (type_of% (@decide_eq_true_eq)) ∧ (type_of% (@decide_eq_false_iff_not)) ∧ (type_of% (@true_and)) ∧ (type_of% (@and_true)) ∧ (type_of% (@and_self)) ∧ (type_of% (@imp_self)) ∧ (type_of% (@ex_tp)) ∧ (type_of% (@ex_ag)) ∧ (type_of% (@List.getD_cons_zero AV)) ∧ (type_of% (@List.getD_cons_zero UInt8)) ∧ (type_of% (@List.getD_cons_succ AV)) ∧ (type_of% (@List.getD_cons_succ UInt8)) ∧ (type_of% (@List.length_cons AV)) ∧ (type_of% (@List.length_cons UInt8)) ∧ (type_of% (@List.length_nil AV)) ∧ (type_of% (@List.length_nil UInt8)) ∧ (type_of% (@Nat.zero_add)) :=
  ⟨@x_q, @x_o, @x_b, @x_k, @x_x, @x_r, @x_it, @x_if, @x_p, @p_nil, @p_on, @p_off, @p_un0, @p_mv, @p_pk, @p_bn, @p_un, @p_be, @p_nl, @p_eqa, @p_ci, @p_cbs, @p_csb, @p_ex, @p_bd, @p_fd, @p_ix, @p_ixa, @p_ss, @p_sl, @p_sla, @p_ln, @p_lns, @p_lnm, @p_al, @p_bx, @p_lal, @p_lbx, @p_ld, @p_st, @p_fa, @p_ia, @p_iaa, @p_bs, @p_lbs, @p_mk, @p_ap, @p_cp, @p_cl, @p_cv, @p_mf, @p_nc, @p_mm, @p_mkm, @p_lk, @p_mu, @p_dl, @p_rs, @p_nx, @cfC.eq_1, @cfC.eq_2, @lgPut.eq_1, @isOk.eq_1, @isOk.eq_2, @rv.eq_1, @rv.eq_2, @rh.eq_1, @rh.eq_2, @Bool.false_eq_true, @d_nil, @d_on, @d_off, @d_un0, @d_mv, @d_pk, @d_bn, @d_un, @d_be, @d_nl, @d_eqa, @d_ci, @d_cbs, @d_csb, @d_ex, @d_bd, @d_fd, @d_ix, @d_ixa, @d_ss, @d_sl, @d_sla, @d_ln, @d_lns, @d_lnm, @d_al, @d_bx, @d_lal, @d_lbx, @d_ld, @d_st, @d_fa, @d_ia, @d_iaa, @d_bs, @d_lbs, @d_mk, @d_ap, @d_cp, @d_cl, @d_cv, @d_mf, @d_nc, @d_mm, @d_mkm, @d_lk, @d_mu, @d_dl, @d_rs, @d_nx, @okO.eq_1, @okO.eq_2, @okO.eq_3, @okO.eq_4, @okO.eq_5, @okO.eq_6, @okO.eq_7, @okO.eq_8, @okO.eq_9, @okO.eq_10, @okO.eq_11, @okO.eq_12, @okO.eq_13, @okO.eq_14, @okO.eq_15, @okO.eq_16, @okO.eq_17, @okO.eq_18, @okO.eq_19, @okO.eq_20, @okO.eq_21, @okO.eq_22, @okO.eq_23, @okO.eq_24, @okO.eq_25, @okO.eq_26, @okO.eq_27, @okO.eq_28, @okO.eq_29, @okO.eq_30, @okO.eq_31, @okO.eq_32, @okO.eq_33, @okO.eq_34, @okO.eq_35, @okO.eq_36, @okO.eq_37, @okO.eq_38, @okO.eq_39, @okO.eq_40, @okO.eq_41, @okO.eq_42, @okO.eq_43, @okO.eq_44, @okO.eq_45, @okO.eq_46, @okO.eq_47, @vlO.eq_1, @vlO.eq_2, @vlO.eq_3, @vlO.eq_4, @vlO.eq_5, @vlO.eq_6, @vlO.eq_7, @vlO.eq_8, @vlO.eq_9, @vlO.eq_10, @vlO.eq_11, @vlO.eq_12, @vlO.eq_13, @vlO.eq_14, @vlO.eq_15, @vlO.eq_16, @vlO.eq_17, @vlO.eq_18, @vlO.eq_19, @vlO.eq_20, @vlO.eq_21, @vlO.eq_22, @vlO.eq_23, @vlO.eq_24, @vlO.eq_25, @vlO.eq_26, @vlO.eq_27, @vlO.eq_28, @vlO.eq_29, @vlO.eq_30, @vlO.eq_31, @vlO.eq_32, @vlO.eq_33, @vlO.eq_34, @vlO.eq_35, @vlO.eq_36, @vlO.eq_37, @vlO.eq_38, @vlO.eq_39, @vlO.eq_40, @vlO.eq_41, @vlO.eq_42, @vlO.eq_43, @vlO.eq_44, @vlO.eq_45, @vlO.eq_46, @vlO.eq_47, @mmO.eq_1, @mmO.eq_2, @mmO.eq_3, @mmO.eq_4, @mmO.eq_5, @mmO.eq_6, @mmO.eq_7, @mmO.eq_8, @mmO.eq_9, @mmO.eq_10, @mmO.eq_11, @mmO.eq_12, @mmO.eq_13, @mmO.eq_14, @mmO.eq_15, @mmO.eq_16, @mmO.eq_17, @mmO.eq_18, @mmO.eq_19, @dsO.eq_1, @dsO.eq_2, @dsO.eq_3, @dsO.eq_4, @dsO.eq_5, @dsO.eq_6, @dsO.eq_7, @dsO.eq_8, @dsO.eq_9, @dsO.eq_10, @dsO.eq_11, @dsO.eq_12, @dsO.eq_13, @dsO.eq_14, @dsO.eq_15, @dsO.eq_16, @dsO.eq_17, @dsO.eq_18, @dsO.eq_19, @dsO.eq_20, @dsO.eq_21, @dsO.eq_22, @dsO.eq_23, @dsO.eq_24, @dsO.eq_25, @dsO.eq_26, @dsO.eq_27, @dsO.eq_28, @dsO.eq_29, @dsO.eq_30, @dsO.eq_31, @dsO.eq_32, @dsO.eq_33, @dsO.eq_34, @dsO.eq_35, @dsO.eq_36, @dsO.eq_37, @dsO.eq_38, @dsO.eq_39, @dsO.eq_40, @dsO.eq_41, @dsO.eq_42, @dsO.eq_43, @dsO.eq_44, @dsO.eq_45, @dsO.eq_46, @dsO.eq_47, @putE.eq_1, @putE.eq_2, @args.eq_1, @args.eq_2, @evT.eq_1, @evT.eq_2, @evT.eq_3, @evT.eq_4, @evs.eq_1, @evs.eq_2, @evO.eq_1, @evO.eq_2, @look.eq_1, @look.eq_2, @kOps.eq_1, @kSeq.eq_1, @kSeq.eq_2, @kBlk.eq_1, @kBlk.eq_2, @keepE.eq_1, @keepE.eq_2, @binC.eq_1, @binC.eq_2, @binC.eq_3, @binV.eq_1, @binV.eq_2, @binV.eq_3, @intC.eq_1, @intC.eq_2, @intC.eq_3, @intC.eq_4, @intC.eq_5, @intV.eq_1, @intV.eq_2, @intV.eq_3, @intV.eq_4, @intV.eq_5, @intV.eq_6, @intV.eq_7, @intV.eq_8, @intV.eq_9, @intV.eq_10, @intV.eq_11, @intV.eq_12, @intV.eq_13, @intV.eq_14, @strC.eq_1, @strC.eq_2, @strC.eq_3, @strC.eq_4, @strC.eq_5, @strC.eq_6, @strC.eq_7, @strC.eq_8, @strV.eq_1, @strV.eq_2, @strV.eq_3, @strV.eq_4, @strV.eq_5, @strV.eq_6, @strV.eq_7, @strV.eq_8, @unC.eq_1, @unC.eq_2, @unC.eq_3, @unV.eq_1, @unV.eq_2, @unV.eq_3, @unV.eq_4, @AV.isI.eq_1, @AV.isI.eq_2, @AV.isB.eq_1, @AV.isB.eq_2, @AV.isS.eq_1, @AV.isS.eq_2, @AV.toI.eq_1, @AV.toI.eq_2, @AV.toK.eq_1, @AV.toK.eq_2, @AV.toS.eq_1, @AV.toS.eq_2, @allOut.eq_1, @allOut.eq_2, @o_b, @o_i, @o_s, @o_np, @o_pv, @o_pe, @o_ns, @o_sl, @o_nm, @o_mp, @o_nf, @o_fn, @o_ag, @q_b, @q_i, @q_s, @q_np, @q_pv, @q_pe, @q_ns, @q_sl, @q_nm, @q_mp, @q_nf, @q_fn, @q_ag, @Bool.and_true, @Bool.and_self, @Bool.true_and, @AV.b.injEq, @decide_eq_true_eq, @decide_eq_false_iff_not, @true_and, @and_true, @and_self, @imp_self, @ex_tp, @ex_ag, @List.getD_cons_zero AV, @List.getD_cons_zero UInt8, @List.getD_cons_succ AV, @List.getD_cons_succ UInt8, @List.length_cons AV, @List.length_cons UInt8, @List.length_nil AV, @List.length_nil UInt8, @Nat.zero_add⟩
set_option maxRecDepth 100000 in
theorem bT : (type_of% (@decide_true)) ∧ (type_of% (@decide_false)) ∧ (type_of% (@Bool.true_eq_false)) ∧ (type_of% (@Bool.not_true)) ∧ (type_of% (@Bool.not_false)) ∧ (type_of% (@not_true_eq_false)) ∧ (type_of% (@not_false_eq_true)) ∧ (type_of% (@pickV.eq_1)) ∧ (type_of% (@pickV.eq_2)) ∧ (type_of% (@pickV.eq_3)) ∧ (type_of% (@cond_true AV)) ∧ (type_of% (@cond_true Bool)) ∧ (type_of% (@cond_false AV)) ∧ (type_of% (@cond_false Bool)) ∧ (type_of% (@boolV.eq_1)) ∧ (type_of% (@boolV.eq_2)) ∧ (type_of% (@fillEC.eq_1)) ∧ (type_of% (@fillEC.eq_2)) ∧ (type_of% (@fillE.eq_1)) ∧ (type_of% (@fillE.eq_2)) ∧ (type_of% (@List.replicate.eq_1 AV)) ∧ (type_of% (@List.replicate.eq_2 AV)) ∧ (type_of% (@List.replicate.eq_1 UInt8)) ∧ (type_of% (@List.replicate.eq_2 UInt8)) ∧ (type_of% (@List.set.eq_1 AV)) ∧ (type_of% (@List.set.eq_2 AV)) ∧ (type_of% (@List.set.eq_3 AV)) ∧ (type_of% (@List.set.eq_1 UInt8)) ∧ (type_of% (@List.set.eq_2 UInt8)) ∧ (type_of% (@List.set.eq_3 UInt8)) ∧ (type_of% (@Mem.newL.eq_1)) ∧ (type_of% (@Mem.keep.eq_1)) ∧ (type_of% (@List.drop_zero AV)) ∧ (type_of% (@List.drop_zero UInt8)) ∧ (type_of% (@Int.le_refl)) ∧ (type_of% (@Nat.sub_zero)) :=
  ⟨@decide_true, @decide_false, @Bool.true_eq_false, @Bool.not_true, @Bool.not_false, @not_true_eq_false, @not_false_eq_true, @pickV.eq_1, @pickV.eq_2, @pickV.eq_3, @cond_true AV, @cond_true Bool, @cond_false AV, @cond_false Bool, @boolV.eq_1, @boolV.eq_2, @fillEC.eq_1, @fillEC.eq_2, @fillE.eq_1, @fillE.eq_2, @List.replicate.eq_1 AV, @List.replicate.eq_2 AV, @List.replicate.eq_1 UInt8, @List.replicate.eq_2 UInt8, @List.set.eq_1 AV, @List.set.eq_2 AV, @List.set.eq_3 AV, @List.set.eq_1 UInt8, @List.set.eq_2 UInt8, @List.set.eq_3 UInt8, @Mem.newL.eq_1, @Mem.keep.eq_1, @List.drop_zero AV, @List.drop_zero UInt8, @Int.le_refl, @Nat.sub_zero⟩
set_option maxRecDepth 100000 in
theorem bV : (type_of% (@Mem.newL.eq_1)) ∧ (type_of% (@Mem.getL.eq_1)) ∧ (type_of% (@Mem.hasL.eq_1)) ∧ (type_of% (@lookL.eq_1)) ∧ (type_of% (@lookL.eq_2)) ∧ (type_of% (@setL.eq_1)) ∧ (type_of% (@setL.eq_2)) ∧ (type_of% (@dropL.eq_1)) ∧ (type_of% (@dropL.eq_2)) ∧ (type_of% (@keepL.eq_1)) ∧ (type_of% (@keepL.eq_2)) ∧ (type_of% (@memN.eq_1)) ∧ (type_of% (@memN.eq_2)) ∧ (type_of% (@la_faC)) ∧ (type_of% (@la_faV)) ∧ (type_of% (@la_ldC)) ∧ (type_of% (@la_ldX)) ∧ (type_of% (@la_stC)) ∧ (type_of% (@la_stM)) ∧ (type_of% (@partOf.eq_1)) ∧ (type_of% (@partOf.eq_2)) ∧ (type_of% (@partFits.eq_1)) ∧ (type_of% (@partFits.eq_2)) ∧ (type_of% (@setEl.eq_1)) ∧ (type_of% (@setEl.eq_2)) ∧ (type_of% (@setPart.eq_1)) ∧ (type_of% (@Option.isSome_some (List AV))) ∧ (type_of% (@Option.getD_some (List AV))) ∧ (type_of% (@List.take_succ_cons AV)) ∧ (type_of% (@List.take_succ_cons UInt8)) ∧ (type_of% (@List.take_zero AV)) ∧ (type_of% (@List.take_zero UInt8)) ∧ (type_of% (@List.drop_succ_cons AV)) ∧ (type_of% (@List.drop_succ_cons UInt8)) ∧ (type_of% (@List.drop_zero AV)) ∧ (type_of% (@List.drop_zero UInt8)) ∧ (type_of% (@List.nil_append AV)) ∧ (type_of% (@List.nil_append UInt8)) ∧ (type_of% (@List.cons_append AV)) ∧ (type_of% (@List.cons_append UInt8)) ∧ (type_of% (@List.getD_cons_zero AV)) ∧ (type_of% (@List.getD_cons_zero UInt8)) ∧ (type_of% (@List.getD_cons_succ AV)) ∧ (type_of% (@List.getD_cons_succ UInt8)) ∧ (type_of% (@List.length_cons AV)) ∧ (type_of% (@List.length_cons UInt8)) ∧ (type_of% (@List.length_nil AV)) ∧ (type_of% (@List.length_nil UInt8)) ∧ (type_of% (@List.set_cons_zero AV)) ∧ (type_of% (@List.set_cons_zero UInt8)) ∧ (type_of% (@List.append_nil AV)) ∧ (type_of% (@List.append_nil UInt8)) ∧ (type_of% (@List.drop_nil AV)) ∧ (type_of% (@List.drop_nil UInt8)) ∧ (type_of% (@List.take_nil AV)) ∧ (type_of% (@List.take_nil UInt8)) ∧ (type_of% (@Nat.zero_add)) ∧ (type_of% (@Nat.add_zero)) ∧ (type_of% (@Nat.lt_add_one)) ∧ (type_of% (@Nat.le_refl)) ∧ (type_of% (@Nat.zero_le)) ∧ (type_of% (@Nat.zero_lt_succ)) ∧ (type_of% (@fillP.eq_1)) ∧ (type_of% (@fillP.eq_2)) ∧ (type_of% (@fillC.eq_1)) ∧ (type_of% (@fillC.eq_2)) ∧ (type_of% (@lgAt.eq_1)) ∧ (type_of% (@lgAt.eq_2)) ∧ (type_of% (@isRd.eq_1)) ∧ (type_of% (@isRd.eq_2)) ∧ (type_of% (@isRd.eq_3)) ∧ (type_of% (@isRd.eq_4)) ∧ (type_of% (@isRd.eq_5)) ∧ (type_of% (@isRd.eq_6)) ∧ (type_of% (@isRd.eq_7)) ∧ (type_of% (@isRd.eq_8)) :=
  ⟨@Mem.newL.eq_1, @Mem.getL.eq_1, @Mem.hasL.eq_1, @lookL.eq_1, @lookL.eq_2, @setL.eq_1, @setL.eq_2, @dropL.eq_1, @dropL.eq_2, @keepL.eq_1, @keepL.eq_2, @memN.eq_1, @memN.eq_2, @la_faC, @la_faV, @la_ldC, @la_ldX, @la_stC, @la_stM, @partOf.eq_1, @partOf.eq_2, @partFits.eq_1, @partFits.eq_2, @setEl.eq_1, @setEl.eq_2, @setPart.eq_1, @Option.isSome_some (List AV), @Option.getD_some (List AV), @List.take_succ_cons AV, @List.take_succ_cons UInt8, @List.take_zero AV, @List.take_zero UInt8, @List.drop_succ_cons AV, @List.drop_succ_cons UInt8, @List.drop_zero AV, @List.drop_zero UInt8, @List.nil_append AV, @List.nil_append UInt8, @List.cons_append AV, @List.cons_append UInt8, @List.getD_cons_zero AV, @List.getD_cons_zero UInt8, @List.getD_cons_succ AV, @List.getD_cons_succ UInt8, @List.length_cons AV, @List.length_cons UInt8, @List.length_nil AV, @List.length_nil UInt8, @List.set_cons_zero AV, @List.set_cons_zero UInt8, @List.append_nil AV, @List.append_nil UInt8, @List.drop_nil AV, @List.drop_nil UInt8, @List.take_nil AV, @List.take_nil UInt8, @Nat.zero_add, @Nat.add_zero, @Nat.lt_add_one, @Nat.le_refl, @Nat.zero_le, @Nat.zero_lt_succ, @fillP.eq_1, @fillP.eq_2, @fillC.eq_1, @fillC.eq_2, @lgAt.eq_1, @lgAt.eq_2, @isRd.eq_1, @isRd.eq_2, @isRd.eq_3, @isRd.eq_4, @isRd.eq_5, @isRd.eq_6, @isRd.eq_7, @isRd.eq_8⟩
end Go.Vm
/- Schemas: functions over slices of values without memory of their own (sizes, copies, comparisons): code with a callee left open, run once for all. -/
namespace Go.Vm
set_option linter.unusedVariables false
set_option linter.unusedSimpArgs false
/-- How values without memory of their own are laid: always as so many cells together. -/
structure Enc (α : Type) where
  z : Nat
  fn : α → List AV
  len : ∀ x, (fn x).length = z
def Enc.v {α : Type} (E : Enc α) (x : α) : AV := .ag (E.fn x)
section
variable {C : Tab} {α : Type} {E : Enc α}
abbrev Sx (H : AH) (E : Enc α) (a : AV) (xs : List α) : Prop := Sl H E.z a (xs.map E.v)
abbrev Mx (H : AH) (E : Enc α) (a : AV) (xs : List α) : Prop := Mn H E.z a (xs.map E.v)
theorem Enc.out (x : α) : (E.v x).outs = true := rfl
theorem Enc.cells (x : α) : (E.v x).cells.length = E.z := E.len x
theorem enc_at {xs : List α} {i : Nat} (h : i < xs.length) : (xs.map E.v).getD i .u = E.v xs[i] := by simp [List.getD, h]
theorem part_v (x : α) : partOf (E.v x).cells 0 (some E.z) = E.v x := by
  simp only [partOf, List.drop_zero, Enc.v, AV.cells]
  rw [List.take_of_length_le (Nat.le_of_eq (E.len x))]
theorem Sx.ia {H : AH} {a : AV} {xs : List α} (h : Sx H E a xs) {j : Int} (h0 : 0 ≤ j) (hj : j < xs.length) (L : List Lv) (g : Nat) (hl : j.toNat < xs.length) : slZ H E.z a ∧ iaC j a ∧ ldC ⟨L, g, H⟩ (some E.z) (iaV j.toNat a) ∧ ldX ⟨L, g, H⟩ (some E.z) (iaV j.toNat a) = E.v (xs[j.toNat]) := by
  obtain ⟨h1, h2, -, h4⟩ := Sl.ia h h0 (by simpa using hj)
  have := h4 L g 0 (some E.z) (by rw [enc_at hl]; simp [partFits, Enc.cells])
  rw [fa0, enc_at hl, part_v] at this
  exact ⟨h1, h2, this.1, this.2⟩
/-- An element, read at once. -/
theorem Sx.at' {H : AH} {a : AV} {xs : List α} (h : Sx H E a xs) {j : Nat} (hj : j < xs.length) : slZ H E.z a ∧ iaC (j : Int) a ∧ (∀ (L : List Lv) (g : Nat), ldC ⟨L, g, H⟩ (some E.z) (iaV j a)) ∧ ∀ (L : List Lv) (g : Nat), ldX ⟨L, g, H⟩ (some E.z) (iaV j a) = E.v (xs[j]) := by
  obtain ⟨h1, h2, -, -⟩ := h.ia (j := j) (by omega) (by omega) [] 0 hj
  exact ⟨h1, h2, fun L g => (h.ia (j := j) (by omega) (by omega) L g hj).2.2.1, fun L g => (h.ia (j := j) (by omega) (by omega) L g hj).2.2.2⟩
/-- One field of an element. -/
theorem Sx.fd {H : AH} {a : AV} {xs : List α} (h : Sx H E a xs) {j : Int} (h0 : 0 ≤ j) (hj : j < xs.length) {off : Nat} (ho : off < E.z) (L : List Lv) (g : Nat) (hl : j.toNat < xs.length) : slZ H E.z a ∧ iaC j a ∧ faC (iaV j.toNat a) ∧ ldC ⟨L, g, H⟩ none (faV off (iaV j.toNat a)) ∧ ldX ⟨L, g, H⟩ none (faV off (iaV j.toNat a)) = (E.fn (xs[j.toNat])).getD off .u := by
  obtain ⟨h1, h2, h3, h4⟩ := Sl.ia h h0 (by simpa using hj)
  have := h4 L g off none (by rw [enc_at hl]; simp only [partFits, Enc.cells]; exact ho)
  rw [enc_at hl] at this
  exact ⟨h1, h2, h3, this.1, this.2⟩
theorem Sx.len {H : AH} {a : AV} {xs : List α} (h : Sx H E a xs) : lenV a = .i .i64 xs.length ∧ lenC a := by
  have := Sl.len h
  rwa [List.length_map] at this
def tot' (w : α → Nat) : List α → Nat
  | [] => 0
  | o :: r => w o + tot' w r
theorem tot_mem' {w : α → Nat} {o : α} : ∀ {l : List α}, o ∈ l → w o ≤ tot' w l
  | x :: r, h => by
    rcases List.mem_cons.1 h with rfl | h
    · simp [tot']
    · have := tot_mem' (w := w) h; simp [tot']; omega
end
end Go.Vm
/- Elements of own slices, changed field by field; and the decimal text that a mark is. -/
namespace Go.Vm
set_option linter.unusedVariables false
set_option linter.unusedSimpArgs false
section
variable {C : Tab} {α : Type} {E : Enc α}
theorem Sx.fdn {H : AH} {a : AV} {xs : List α} (h : Sx H E a xs) {i off z : Nat} (hz : E.z = z) (hi : i < xs.length) (ho : off < z) : slZ H z a ∧ iaC (i : Int) a ∧ faC (iaV i a) ∧ (∀ (L : List Lv) (g : Nat), ldC ⟨L, g, H⟩ none (faV off (iaV i a))) ∧ ∀ (L : List Lv) (g : Nat), ldX ⟨L, g, H⟩ none (faV off (iaV i a)) = (E.fn xs[i]).getD off .u := by
  subst hz
  obtain ⟨h1, h2, h3, -⟩ := h.fd (j := i) (by omega) (by omega) ho [] 0 hi
  exact ⟨h1, h2, h3, fun L g => (h.fd (j := i) (by omega) (by omega) ho L g hi).2.2.2.1, fun L g => (h.fd (j := i) (by omega) (by omega) ho L g hi).2.2.2.2⟩
/-- Behind changes of rows of its own: all else stays. -/
structure Kp (ids : List Nat) (H H' : AH) : Prop where
  n : H.n ≤ H'.n
  at' : ∀ i, i < H.n → ¬ i ∈ ids → H'.at' i = H.at' i
theorem Kp.refl (ids : List Nat) (H : AH) : Kp ids H H := ⟨Nat.le_refl _, fun _ _ _ => rfl⟩
theorem Kp.trans {ids : List Nat} {H H1 H2 : AH} (h : Kp ids H H1) (h' : Kp ids H1 H2) : Kp ids H H2 := ⟨Nat.le_trans h.n h'.n, fun i hi hn => (h'.at' i (Nat.lt_of_lt_of_le hi h.n) hn).trans (h.at' i hi hn)⟩
theorem Kp.ext {ids : List Nat} {H H' : AH} (h : Ext H H') : Kp ids H H' := ⟨h.n, fun i hi _ => h.at' i hi⟩
theorem Kp.st {ids : List Nat} {H H' : AH} (hn : H'.n = H.n) (h : ∀ j, ¬ j ∈ ids → H'.at' j = H.at' j) : Kp ids H H' := ⟨Nat.le_of_eq hn.symm, fun i _ hi => h i hi⟩
theorem Kp.mono {ids js : List Nat} {H H' : AH} (h : Kp ids H H') (hs : ∀ i, i ∈ ids → i ∈ js) : Kp js H H' := ⟨h.n, fun i hi hn => h.at' i hi fun hm => hn (hs i hm)⟩
/-- Rows of its own are nobody else's. -/
theorem Kp.put {ids : List Nat} {H0 H H' : AH} (he : Ext H0 H) (h : Kp ids H H') (hi : ∀ i, i ∈ ids → H0.n ≤ i) : Ext H0 H' := he.put hi h.n h.at'
theorem Kp.sl {ids : List Nat} {H H' : AH} {z : Nat} {a : AV} {els : List AV} (h : Kp ids H H') (hs : Sl H z a els) (hd : ∀ i, i ∈ idA a → ¬ i ∈ ids) : Sl H' z a els := hs.fr h.n fun i hi => h.at' i (hs.lt i hi) (hd i hi)
theorem Kp.mn {ids : List Nat} {H H' : AH} {z : Nat} {a : AV} {els : List AV} (h : Kp ids H H') (hs : Mn H z a els) (hd : ∀ i, i ∈ idA a → ¬ i ∈ ids) : Mn H' z a els := hs.fr h.n fun i hi => h.at' i (hs.lt i hi) (hd i hi)
/-! The text of a mark. -/
end
end Go.Vm
/- Objects that are one struct: fields read and written through their address. -/
namespace Go.Vm
set_option linter.unusedVariables false
set_option linter.unusedSimpArgs false
structure Obj1 (H : AH) (id : Nat) (cs : List AV) : Prop where
  lt : id < H.n
  at' : H.at' id = .arr true 0 cs.length [.ag cs]
section
variable {H H' : AH} {id off : Nat} {cs : List AV} {v : AV}
theorem pv_faC : faC (.pv id off) := trivial
theorem pv_faV {o : Nat} : faV o (.pv id off) = .pv id (off + o) := rfl
theorem pv_ldC0 {M : Mem} : ldC M (some 0) (.pv id off) = True := by simp [ldC]
theorem pv_ldX0 {M : Mem} : ldX M (some 0) (.pv id off) = .ag [] := rfl
theorem Obj1.ld (h : Obj1 H id cs) (ho : off < cs.length) : (∀ (L : List Lv) (g : Nat), ldC ⟨L, g, H⟩ none (.pv id off)) ∧ ∀ (L : List Lv) (g : Nat), ldX ⟨L, g, H⟩ none (.pv id off) = cs.getD off .u := by
  refine ⟨fun L g => ?_, fun L g => ?_⟩
  · simp only [ldC, h.at']
    exact .inr ⟨trivial, by simpa [partFits, flat, AV.cells] using ho⟩
  · show ldV ⟨L, g, H⟩ none (.pv id off) = _
    simp only [ldV, h.at', partOf, flat, AV.cells, List.append_nil]
theorem Obj1.lds (h : Obj1 H id cs) : (∀ (L : List Lv) (g : Nat), ldC ⟨L, g, H⟩ (some cs.length) (.pv id 0)) ∧ ∀ (L : List Lv) (g : Nat), ldX ⟨L, g, H⟩ (some cs.length) (.pv id 0) = if cs.length = 0 then .ag [] else .ag cs := by
  refine ⟨fun L g => ?_, fun L g => ?_⟩
  · simp only [ldC, h.at']
    exact .inr ⟨trivial, by simp [partFits, flat, AV.cells]⟩
  · cases hc : cs.length with
    | zero => rfl
    | succ n =>
      show ldV ⟨L, g, H⟩ (some (n + 1)) (.pv id 0) = _
      simp only [ldV, h.at', partOf, flat, AV.cells, List.append_nil, List.drop_zero]
      rw [List.take_of_length_le (by omega)]
      simp
theorem Obj1.st (h : Obj1 H id cs) (ho : off < cs.length) (hv : v.cells = [v]) : (∀ (L : List Lv) (g : Nat), stC ⟨L, g, H⟩ v (.pv id off)) ∧ ∃ H', (∀ (L : List Lv) (g : Nat), stM ⟨L, g, H⟩ v (.pv id off) = ⟨L, g, H'⟩) ∧ Obj1 H' id (cs.set off v) ∧ H'.n = H.n ∧ ∀ j, ¬ j ∈ [id] → H'.at' j = H.at' j := by
  refine ⟨fun L g => ?_, H.set id (.arr true 0 cs.length [.ag (cs.set off v)]), fun L g => ?_, ⟨h.lt, ?_⟩, rfl, fun j hj => set_ne fun e => hj (by simp [e])⟩
  · simp only [stC, h.at', hv, List.length_singleton]
    exact ⟨trivial, trivial, rfl, ho⟩
  · simp only [stM, h.at', setEl, setPart, hv, List.length_singleton]
    rw [List.set_eq_take_append_cons_drop, if_pos ho]
    simp
  · rw [set_at, List.length_set]
theorem Obj1.fr (h : Obj1 H id cs) (hn : H.n ≤ H'.n) (ha : H'.at' id = H.at' id) : Obj1 H' id cs := ⟨Nat.lt_of_lt_of_le h.lt hn, ha.trans h.at'⟩
theorem Obj1.ext (h : Obj1 H id cs) (he : Ext H H') : Obj1 H' id cs := h.fr he.n (he.at' _ h.lt)
theorem Obj1.kp {ids : List Nat} (h : Obj1 H id cs) (hk : Kp ids H H') (hi : ¬ id ∈ ids) : Obj1 H' id cs := h.fr hk.n (hk.at' _ h.lt hi)
theorem Obj1.new {H : AH} {cs : List AV} : Obj1 (H.new (.arr true 0 cs.length [.ag cs])) H.n cs := ⟨by simp, new_at⟩
end
end Go.Vm
/- Functions' code as literals of the abstract machine, printed by wip/tools/lits.py; the kernel checks each against the translation. -/
namespace Go.Vm
set_option linter.unusedVariables false
set_option linter.unusedSimpArgs false
/-- loop.example/s01858/spec.l02Num -/
def c_spec_l02Num : Fn := ⟨1, [(.t 2)],
    .q (.o [.mv 2 (.c (.i .i64 0))])
    (.q (.o [.mv 3 (.c (.i .i64 0))])
    (.q (.q (.o [.mv 4 (.c (.i .i64 0))])
    (.b 0 (.l [0, 3, 4] (.q (.q (.o [.mv 5 (.t 4),
      .mv 6 (.t 0),
      .lns 7 (.t 6),
      .bn 8 .lss (.t 5) (.t 7)])
    (.i (.t 8) (.k)
    (.x 0)))
    (.q (.b 1 (.o [.mv 11 (.t 3),
      .bn 12 .mul (.t 11) (.c (.i .i64 256)),
      .mv 13 (.t 0),
      .mv 14 (.t 4),
      .ix 15 (.t 13) (.t 14),
      .ci 16 .i64 (.t 15),
      .bn 17 .add (.t 12) (.t 16),
      .mv 3 (.t 17)]))
    (.o [.mv 9 (.t 4),
      .bn 10 .add (.t 9) (.c (.i .i64 1)),
      .mv 4 (.t 10)]))))))
    (.q (.o [.mv 18 (.t 3),
      .mv 2 (.t 18)])
    (.r))))⟩
abbrev n_spec_l02Num : Nat := 83
theorem k_spec_l02Num : chkF Go.Proofs.Tryd.prog c_spec_l02Num 83 = true := by kernel_rfl
theorem mixed : Go.Proofs.Tryd.prog.follows .mixedOrders = true := by kernel_rfl
end Go.Vm
/- Numbers out of bytes; a literal of one element. -/
namespace Go.Vm
set_option linter.unusedVariables false
set_option linter.unusedSimpArgs false
def num : List UInt8 → Nat → Nat
  | [], n => n
  | b :: r, n => num r (n * 256 + b.toNat)
theorem num_app : ∀ (l : List UInt8) (b : UInt8) (n : Nat), num (l ++ [b]) n = num l n * 256 + b.toNat
  | [], b, n => rfl
  | c :: r, b, n => num_app r b _
theorem num_lt : ∀ (l : List UInt8) (n k : Nat), n < 256 ^ k → num l n < 256 ^ (k + l.length)
  | [], n, k, h => h
  | b :: r, n, k, h => by
    have hb := b.toNat_lt
    have := num_lt r (n * 256 + b.toNat) (k + 1) (by rw [Nat.pow_succ]; omega)
    rw [List.length_cons, show k + (r.length + 1) = k + 1 + r.length by omega]
    exact this
def T_l02Num (C : Tab) (f : Nat) : Prop := ∀ l H, l.length ≤ 7 → C f [.s l] H = some (.i .i64 ((num l 0 : Nat) : Int), H)
/-- A literal of one element. -/
theorem lit_src {t g : Nat} {x : AV} {L : List Lv} {H : AH} : srcV ⟨⟨t, g, 0, [x]⟩ :: L, g + 1, H⟩ (.ll t g 1 1) = [x] ∧ srcC ⟨⟨t, g, 0, [x]⟩ :: L, g + 1, H⟩ 1 (.ll t g 1 1) := by
  simp [srcV, srcC, Mem.getL, Mem.hasL, lookL]
section
variable {C : Tab}
theorem r_l02Num {l : List UInt8} {H : AH} (hl : l.length ≤ 7) : Runs C c_spec_l02Num [.s l] H fun v H' => v = .i .i64 ((num l 0 : Nat) : Int) ∧ H' = H := by
  unfold Runs c_spec_l02Num
  simp only [bS, reduceIte, Nat.reduceEqDiff]
  refine exec_loop (fun n e M => ∃ i : Nat, i ≤ l.length ∧ n = l.length - i ∧ look e 0 = .s l ∧ look e 3 = .i .i64 ((num (l.take i) 0 : Nat) : Int) ∧ look e 4 = .i .i64 i ∧ ∃ L g, M = ⟨L, g, H⟩) ?_ (n := l.length) ⟨0, by omega, by omega, rfl, rfl, rfl, _, _, rfl⟩
  rintro n e M ⟨i, hi, rfl, q0, q3, q4, L, g, rfl⟩
  simp only [bS, reduceIte, Nat.reduceEqDiff, q0, q3, q4, Mem.keep]
  refine ⟨fun hlt => ?_, fun hge => ?_⟩
  · have hil : i < l.length := by omega
    have hb := (l[i]).toNat_lt
    have hlt := num_lt (l.take i) 0 0 (by simp)
    have hle : 256 ^ (0 + (l.take i).length) ≤ 256 ^ 6 := Nat.pow_le_pow_right (by omega) (by simp; omega)
    have e256 : (256 : Nat) ^ 6 = 281474976710656 := by decide
    have hg : l.getD i 0 = l[i] := by simp [List.getD, List.getElem?_eq_getElem hil]
    simp only [toNat_nat, hg]
    refine ⟨⟨by omega, by omega⟩, l.length - (i + 1), by omega, i + 1, by omega, rfl, ?_, by rw [w64 (by omega) (by omega)]; rfl, _, _, rfl⟩
    rw [← List.take_append_getElem hil, num_app, w64 (x := _ * 256) (by omega) (by omega), w64 (x := ((l[i]).toNat : Int)) (by omega) (by omega), w64 (by omega) (by omega)]
    congr 1
  · have hil : i = l.length := by omega
    subst hil
    simp only [bS, reduceIte, Nat.reduceEqDiff, q3, endK, rsC, rsV, resV, List.take_length]
end
end Go.Vm
/- Functions' code as literals of the abstract machine, printed by wip/tools/lits.py; the kernel checks each against the translation. -/
namespace Go.Vm
set_option linter.unusedVariables false
set_option linter.unusedSimpArgs false
/-- loop.example/s01858/spec.l04In -/
def c_spec_l04In : Fn := ⟨2, [(.t 4)],
    .q (.o [.mv 4 (.c (.b false))])
    (.q (.o [.mv 5 (.t 0),
      .bn 6 .geq (.t 5) (.c (.i .i64 0)),
      .mv 7 (.t 6),
      .gd 7 true (.mv 8 (.t 0)),
      .gd 7 true (.mv 9 (.t 1)),
      .gd 7 true (.bn 10 .leq (.t 8) (.t 9)),
      .pk 11 (.t 7) (.t 10) (.c (.b false)),
      .mv 4 (.t 11)])
    (.r))⟩
abbrev n_spec_l04In : Nat := 26
theorem k_spec_l04In : chkF Go.Proofs.Tryd.prog c_spec_l04In 26 = true := by kernel_rfl
/-- loop.example/s01858/spec.l02Put -/
def c_spec_l02Put : Fn := ⟨2, [(.t 4)],
    .q (.o [.mv 4 (.c (.s []))])
    (.q (.o [.bs 7 (.i .u8 0) 1 0 [],
      .mv 5 (.t 7)])
    (.q (.q (.o [.mv 8 (.t 1),
      .bn 9 .sub (.t 8) (.c (.i .i64 1)),
      .mv 6 (.t 9)])
    (.b 0 (.l [0, 5, 6] (.q (.q (.o [.mv 10 (.t 6),
      .bn 11 .geq (.t 10) (.c (.i .i64 0))])
    (.i (.t 11) (.k)
    (.x 0)))
    (.q (.b 1 (.o [.mv 14 (.t 5),
      .mv 15 (.t 0),
      .mv 16 (.t 6),
      .bn 17 .mul (.c (.i .i64 8)) (.t 16),
      .ci 18 .u64 (.t 17),
      .bn 19 .shr (.t 15) (.t 18),
      .ci 20 .u8 (.t 19),
      .lbs 21 (.i .u8 0) 1 1 [(0, (.t 20))],
      .ap 22 (.t 14) (.t 21) 1 1,
      .mv 5 (.t 22)]))
    (.o [.mv 12 (.t 6),
      .bn 13 .sub (.t 12) (.c (.i .i64 1)),
      .mv 6 (.t 13)]))))))
    (.q (.o [.mv 23 (.t 5),
      .cbs 24 (.t 23),
      .mv 4 (.t 24)])
    (.r))))⟩
abbrev n_spec_l02Put : Nat := 27
theorem k_spec_l02Put : chkF Go.Proofs.Tryd.prog c_spec_l02Put 27 = true := by kernel_rfl
/-- loop.example/s01858/impl.within -/
def c_impl_within : Fn := ⟨3, [(.t 6)],
    .q (.o [.mv 6 (.c (.b false))])
    (.q (.o [.mv 7 (.t 0),
      .mv 8 (.t 1),
      .bn 9 .geq (.t 7) (.t 8),
      .mv 10 (.t 9),
      .gd 10 true (.mv 11 (.t 0)),
      .gd 10 true (.mv 12 (.t 2)),
      .gd 10 true (.bn 13 .leq (.t 11) (.t 12)),
      .pk 14 (.t 10) (.t 13) (.c (.b false)),
      .mv 6 (.t 14)])
    (.r))⟩
abbrev n_impl_within : Nat := 28
theorem k_impl_within : chkF Go.Proofs.Tryd.prog c_impl_within 28 = true := by kernel_rfl
/-- loop.example/s01858/impl.p16 -/
def c_impl_p16 : Fn := ⟨1, [(.t 2)],
    .q (.o [.mv 2 (.c (.s []))])
    (.q (.o [.mv 3 (.t 0),
      .bn 4 .shr (.t 3) (.c (.i .u64 8)),
      .ci 5 .u8 (.t 4),
      .mv 6 (.t 0),
      .ci 7 .u8 (.t 6),
      .bs 8 (.i .u8 0) 1 2 [(0, (.t 5)), (1, (.t 7))],
      .cbs 9 (.t 8),
      .mv 2 (.t 9)])
    (.r))⟩
abbrev n_impl_p16 : Nat := 29
theorem k_impl_p16 : chkF Go.Proofs.Tryd.prog c_impl_p16 29 = true := by kernel_rfl
end Go.Vm
