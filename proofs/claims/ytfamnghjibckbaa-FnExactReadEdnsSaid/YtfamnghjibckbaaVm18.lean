/- Statements, functions, tables of functions. -/
import Derived.Test.YtfamnghjibckbaaVm17
import Derived.Control
import Derived.LoopN
namespace Go.Vm
set_option linter.unusedVariables false
set_option linter.unusedSimpArgs false
def chkS (P : Program) (N : Nat) : S → Code → Bool
  | .k, .skip => true
  | .o l, .region _ ops false => chkOs P ops l ops.toList && okDs N l
  | .p l, .region _ ops true => chkP P N l ops
  | .q a b, .seq x y => chkS P N a x && chkS P N b y
  | .i c a b, .cond d x y => chkX P c d && chkS P N a x && chkS P N b y
  | .b id s, .block id' c => id == id' && chkS P N s c
  | .l _ s, .loop c => chkS P N s c
  | .x id, .exit id' => id == id'
  | .r, .ret => true
  | _, _ => false
def exitOf : X → Exit
  | .nx => .normal
  | .ex id => .exit id
  | .rt => .ret
section
variable {P : Program} {B : Base} {C : Tab} {N : Nat}
theorem look_keep {e : Env} {t : Nat} : ∀ {l : List Nat}, look (keepE e l) t = look e t ∨ look (keepE e l) t = .u
  | [] => .inr rfl
  | m :: r => by
    simp only [keepE, look]
    by_cases h : m = t
    · rw [if_pos h, h]; exact .inl rfl
    · rw [if_neg h]; exact look_keep
theorem lookL_keep {live : List Nat} : ∀ {l : List Lv} {t g k : Nat} {xs : List AV}, lookL (keepL live l) t g k = some xs → lookL l t g k = some xs
  | [], _, _, _, _, h => h
  | v :: r, t, g, k, xs, h => by
    simp only [keepL] at h
    by_cases hm : memN live v.t = true
    · rw [if_pos hm] at h
      simp only [lookL] at h ⊢
      by_cases ht : v.t = t
      · rw [if_pos ht] at h ⊢; exact h
      · rw [if_neg ht] at h ⊢; exact lookL_keep h
    · rw [if_neg hm] at h
      simp only [lookL]
      have := lookL_keep h
      by_cases ht : v.t = t
      · exfalso
        have hno : ∀ {l : List Lv}, lookL (keepL live l) t g k = some xs → memN live t = true := by
          intro l
          induction l with
          | nil => intro h; cases h
          | cons u l ih =>
            intro h
            simp only [keepL] at h
            by_cases hu : memN live u.t = true
            · rw [if_pos hu] at h
              simp only [lookL] at h
              by_cases hut : u.t = t
              · rw [← hut]; exact hu
              · rw [if_neg hut] at h; exact ih h
            · rw [if_neg hu] at h; exact ih h
        rw [ht] at hm
        exact hm (hno h)
      · rw [if_neg ht]; exact this
theorem Ex.keep {e : Env} {M : Mem} {a : Act} {w : World} {live : List Nat} (h : Ex B N e M a w) : Ex B N (keepE e live) (M.keep live) a w := by
  obtain ⟨ρ, h⟩ := h
  refine ⟨ρ, fun t => ?_, ?_, h.dfr, h.sz⟩
  · rcases look_keep (e := e) (t := t) (l := live) with h1 | h1
    · rw [h1]; exact h.env t
    · rw [h1]; trivial
  · obtain ⟨m1, m2, m3, m4, m5, m6, m7, m8, m9, m10, m11, m12, m13⟩ := h.mem
    exact ⟨m1, fun t g k xs hv => m2 t g k xs (lookL_keep hv), m3, m4, m5, m6, m7, m8, m9, m10, m11, m12, m13⟩
theorem exec_ok (hC : TabOK P C) (hG : B.G = P.globals.size) (hmx : P.follows .mixedOrders = true) : ∀ (s : S) (c : Code) (κ : Kont) (Q : Exit → Act → World → Prop) (e : Env) (M : Mem) (a : Act) (w : World), chkS P N s c = true →
    (∀ x e M a w, κ x e M → Ex B N e M a w → Q (exitOf x) a w) → exec C s e M κ → Ex B N e M a w → c.wp P Q a w := by
  intro s
  induction s with
  | k =>
    intro c κ Q e M a w hc hQ h hx
    cases c <;> simp [chkS] at hc
    exact wp_skip (hQ .nx e M a w h hx)
  | o l =>
    intro c κ Q e M a w hc hQ h hx
    cases c <;> try (simp [chkS] at hc; done)
    rename_i id ops draw
    cases draw <;> simp [chkS] at hc
    exact text_ok hC hG (fun e M a w => hQ .nx e M a w) hc.1 hc.2 h hx
  | p l =>
    intro c κ Q e M a w hc hQ h hx
    cases c <;> try (simp [chkS] at hc; done)
    rename_i id ops draw
    cases draw <;> simp [chkS] at hc
    exact draw_ok hC hG hmx (fun e M a w => hQ .nx e M a w) hc h hx
  | q s1 s2 ih1 ih2 =>
    intro c κ Q e M a w hc hQ h hx
    cases c <;> simp [chkS] at hc
    rename_i x y
    refine wp_seq (ih1 x _ _ e M a w hc.1 (fun x e M a w hk hx => ?_) h hx)
    cases x with
    | nx => exact ih2 y κ Q e M a w hc.2 hQ hk hx
    | ex id => exact hQ (.ex id) e M a w hk hx
    | rt => exact hQ .rt e M a w hk hx
  | i c0 s1 s2 ih1 ih2 =>
    intro c κ Q e M a w hc hQ h hx
    cases c <;> simp [chkS] at hc
    rename_i d x y
    obtain ⟨h1, h2, h3⟩ := h
    obtain ⟨ρ, hst⟩ := hx
    obtain ⟨b, hb, hv⟩ := (chkX_sound hst.mem hG hc.1.1 (fun t _ => hst.env t)).bool h1
    refine wp_cond (t := b) hv ?_
    cases b with
    | true => exact ih1 x κ Q e M a w hc.1.2 hQ (h2 hb) ⟨ρ, hst⟩
    | false => exact ih2 y κ Q e M a w hc.2 hQ (h3 hb) ⟨ρ, hst⟩
  | b id s ih =>
    intro c κ Q e M a w hc hQ h hx
    cases c <;> simp [chkS] at hc
    rename_i id' c
    obtain ⟨rfl, hc⟩ := hc
    refine wp_block (ih c _ _ e M a w hc (fun x e M a w hk hx => ?_) h hx)
    cases x with
    | nx => exact hQ .nx e M a w hk hx
    | ex j =>
      simp only [kBlk] at hk
      simp only [exitOf, Exit.inBlock]
      by_cases hj : j = id
      · rw [if_pos hj] at hk ⊢; exact hQ .nx e M a w hk hx
      · rw [if_neg hj] at hk ⊢; exact hQ (.ex j) e M a w hk hx
    | rt => exact hQ .rt e M a w hk hx
  | l live s ih =>
    intro c κ Q e M a w hc hQ h hx
    cases c <;> simp [chkS] at hc
    rename_i c
    obtain ⟨n, hn⟩ := h
    refine wp_loop_rounds n ?_
    induction n generalizing e M a w with
    | zero => exact hn.elim
    | succ n ihn =>
      rw [rounds_succ]
      refine ih c _ _ _ _ a w hc (fun x e M a w hk hx => ?_) hn hx.keep
      cases x with
      | nx => exact ihn e M a w hx hk
      | ex id => exact hQ (.ex id) e M a w hk hx
      | rt => exact hQ .rt e M a w hk hx
  | x id =>
    intro c κ Q e M a w hc hQ h hx
    cases c <;> simp [chkS] at hc
    subst hc
    exact wp_exit (hQ (.ex id) e M a w h hx)
  | r =>
    intro c κ Q e M a w hc hQ h hx
    cases c <;> simp [chkS] at hc
    exact wp_ret (hQ .rt e M a w h hx)
end

/-! Functions. -/
def chkRs (P : Program) : List Rs → List ResultVar → Bool
  | [], [] => true
  | .t n :: r, .tmp m :: q => n == m && chkRs P r q
  | .c n sz :: r, .cell a t :: q => n == a && nT P t == some sz && chkRs P r q
  | _, _ => false
def chkB (P : Program) (F : Fn) (fn : Func) : Bool :=
  match fn.body with
  | some c => !(fn.name == "runtime.NumGoroutine") && chkRs P F.rs fn.results.toList && chkS P fn.ntmps F.s c
  | none => false
def chkF (P : Program) (F : Fn) (f : Nat) : Bool :=
  match P.funcs[f]? with
  | some fn => chkB P F fn
  | none => false
/-- How a function ends. -/
def fin (F : Fn) (H : AH) (v : AV) (H' : AH) : Kont := fun x e M => (match x with | .ex _ => False | _ => True) ∧ rsC e M F.rs ∧ Fits H M.h (resV (rsV e M F.rs)) v H'
section
variable {P : Program} {B : Base} {C : Tab} {N : Nat}
def resF (tmps : Array Value) : ResultVar → Sem Value
  | .tmp t => pure (tmps.getD t undef)
  | .cell x t => do loadVar t (← asAddr (tmps.getD x undef))
theorem results_eq (fn : Func) (tmps : Array Value) : results fn tmps = (do
    let vs ← fn.results.mapM (resF tmps)
    pure (if h : vs.size = 1 then vs[0] else .tuple vs)) := rfl
theorem run_results {ρ : Rn} {e : Env} {M : Mem} {a : Act} {w : World} (h : StR B N ρ e M a w) : ∀ (rs : List Rs) (l : List ResultVar), chkRs P rs l = true → rsC e M rs →
    ∃ vs, (l.mapM (resF a.tmps)).run P w = .ok vs w ∧ All2 (V1 ρ) (rsV e M rs) vs
  | [], [], _, _ => ⟨[], by simp, trivial⟩
  | .t n :: r, .tmp m :: q, hc, hk => by
    simp only [chkRs, Bool.and_eq_true, beq_iff_eq] at hc
    obtain ⟨rfl, hc⟩ := hc
    obtain ⟨vs, h1, h2⟩ := run_results h r q hc hk.2
    exact ⟨a.tmps.getD n undef :: vs, by rw [List.mapM_cons]; simp only [Sem.run_bind, resF, Sem.run_pure, Result.andThen_ok]; rw [h1]; rfl, (h.env n).out hk.1, h2⟩
  | .c n sz :: r, .cell x t :: q, hc, hk => by
    simp only [chkRs, Bool.and_eq_true, beq_iff_eq] at hc
    obtain ⟨⟨rfl, ht⟩, hc⟩ := hc
    obtain ⟨vs, h1, h2⟩ := run_results h r q hc hk.2
    obtain ⟨ad, v, g1, g2, g3⟩ := ld_run ht hk.1 (h.env n) h.mem
    exact ⟨v :: vs, by rw [List.mapM_cons]; simp only [Sem.run_bind, resF]; rw [g1]; simp only [asAddr, Sem.run_pure, Result.andThen_ok, g2]; rw [h1]; rfl, g3, h2⟩
  | [], _ :: _, hc, _ => by simp [chkRs] at hc
  | .t _ :: _, [], hc, _ => by simp [chkRs] at hc
  | .c .. :: _, [], hc, _ => by simp [chkRs] at hc
  | .t _ :: _, .cell .. :: _, hc, _ => by simp [chkRs] at hc
  | .c .. :: _, .tmp _ :: _, hc, _ => by simp [chkRs] at hc
theorem run_res {ρ : Rn} {e : Env} {M : Mem} {a : Act} {w : World} {fn : Func} {rs : List Rs} (h : StR B N ρ e M a w) (hc : chkRs P rs fn.results.toList = true) (hk : rsC e M rs) :
    ∃ v, (results fn a.tmps).run P w = .ok v w ∧ V2 ρ (resV (rsV e M rs)) v := by
  obtain ⟨vs, h1, h2⟩ := run_results h rs fn.results.toList hc hk
  refine ⟨if h : vs.toArray.size = 1 then vs.toArray[0] else .tuple vs.toArray, ?_, ?_⟩
  · rw [results_eq, Array.mapM_eq_mapM_toList]
    simp only [Sem.run_bind, Sem.run_map]
    rw [h1]
    rfl
  · cases hr : rsV e M rs with
    | nil =>
      rw [hr] at h2
      cases vs with
      | nil => exact ⟨#[], rfl, trivial⟩
      | cons => exact h2.elim
    | cons x l =>
      rw [hr] at h2
      cases vs with
      | nil => exact h2.elim
      | cons y m =>
        cases l with
        | nil =>
          cases m with
          | nil => exact V2.of h2.1
          | cons => exact h2.2.elim
        | cons x2 l =>
          cases m with
          | nil => exact h2.2.elim
          | cons y2 m =>
            rw [dif_neg (by simp)]
            exact ⟨_, rfl, h2⟩
theorem look_args {ρ : Rn} : ∀ (vs : List AV) (i : Nat) (rv : List Value) (t : Nat), All2 (V1 ρ) vs rv → look (args i vs) t = .u ∨ ∃ v, i ≤ t ∧ rv[t - i]? = some v ∧ V1 ρ (look (args i vs) t) v
  | [], i, _, t, _ => .inl rfl
  | x :: r, i, [], t, h => h.elim
  | x :: r, i, y :: q, t, h => by
    simp only [args, look]
    by_cases ht : i = t
    · subst ht
      rw [if_pos rfl]
      exact .inr ⟨y, Nat.le_refl _, by simp, h.1⟩
    · rw [if_neg ht]
      rcases look_args r (i + 1) q t h.2 with h1 | ⟨v, h1, h2, h3⟩
      · exact .inl h1
      · refine .inr ⟨v, by omega, ?_, h3⟩
        rw [show t - i = (t - (i + 1)) + 1 by omega]
        simpa using h2
theorem fn_back {F : Fn} {f : Nat} {vs : List AV} {H H' : AH} {v : AV} (hC : TabOK P C) (hmx : P.follows .mixedOrders = true) (hF : chkF P F f = true) (hx : exec C F.s (args 0 vs) ⟨[], 0, H⟩ (fin F H v H')) :
    ∀ ρ w rargs, HeapR ρ H w → Globs ρ P.globals.size → All2 (V1 ρ) vs rargs.toList → Calls P f rargs w (Back ρ w v H') := by
  intro ρ w rargs hH hgl hv
  unfold chkF at hF
  split at hF
  · rename_i fn hf
    unfold chkB at hF
    split at hF
    · rename_i c hb
      simp only [Bool.and_eq_true] at hF
      obtain ⟨⟨-, hrs⟩, hcs⟩ := hF
      refine calls_of_wp hf hb ?_
      let ρ1 : Rn := { ρ with lo := fun _ _ => none }
      have hle : ρ.Le ρ1 := ⟨fun _ p h => ⟨p, h, rfl, rfl, rfl, rfl, rfl, Nat.le_refl _⟩, fun _ _ h => h⟩
      have hH1 : HeapR ρ1 H w := hH.of hle rfl rfl (Nat.le_refl _) (fun _ _ _ => ⟨rfl, rfl⟩) hH.bnd fun _ _ h => h
      let B : Base := ⟨P.globals.size, w, ρ1⟩
      have hM : MemR B ρ1 ⟨[], 0, H⟩ w := ⟨hH1, fun t g k xs h => (by cases h), fun _ _ _ => rfl, fun t g t' g' b z z' h => (by cases h), fun t g b z h => (by cases h), Rn.Le.refl _, fun _ _ _ => rfl, fun _ _ => rfl, Nat.le_refl _, rfl, rfl, rfl, hgl⟩
      refine exec_ok (B := B) (N := fn.ntmps) hC rfl hmx F.s c _ _ _ _ _ w hcs (fun x e M a' w' hk hx => ?_) hx ⟨ρ1, fun t => ?_, hM, rfl, by simp; omega⟩
      · obtain ⟨k1, k2, k3⟩ := hk
        obtain ⟨ρ', hst⟩ := hx
        obtain ⟨r, r1, r2⟩ := run_res (fn := fn) hst hrs k2
        have hm := hst.mem
        have hS : Stp ρ w ρ' w' := ⟨hle.trans hm.le, hm.own, hm.frame, hm.sz, hm.os, hm.tape, hm.out⟩
        have hB : Back ρ w v H' (.returned r) w' := k3.back hH hS r2 hm.heap
        cases x with
        | nx => exact ⟨hst.dfr, r, r1, hB⟩
        | rt => exact ⟨hst.dfr, r, r1, hB⟩
        | ex _ => exact k1.elim
      · rcases look_args vs 0 rargs.toList t hv with h | ⟨y, -, h2, h3⟩
        · rw [h]; trivial
        · have hy : rargs[t]? = some y := by simpa using h2
          have : (rargs ++ Array.replicate (fn.ntmps - rargs.size) undef).getD t undef = y := by
            rw [Array.getD_eq_getD_getElem?, Array.getElem?_append_left (Array.getElem?_eq_some_iff.1 hy).1, hy]
            rfl
          show VE ρ1 _ ((rargs ++ Array.replicate (fn.ntmps - rargs.size) undef).getD t undef)
          rw [this]
          exact VE.of (V2.of (V1.mono hle h3))
    · cases hF
  · cases hF
/-- A table with one function more. -/
def ext (C : Tab) (f : Nat) (m : List AV → AH → Option (AV × AH)) : Tab := fun g vs H => if g = f then m vs H else C g vs H
theorem TabOK.none : TabOK P fun _ _ _ => Option.none := fun _ _ _ _ _ h => by cases h
theorem TabOK.ext {F : Fn} {f : Nat} {m : List AV → AH → Option (AV × AH)} (hC : TabOK P C) (hmx : P.follows .mixedOrders = true) (hF : chkF P F f = true)
    (hx : ∀ vs H v H', m vs H = some (v, H') → exec C F.s (args 0 vs) ⟨[], 0, H⟩ (fin F H v H')) : TabOK P (ext C f m) := by
  intro g vs H v H' h
  unfold Vm.ext at h
  by_cases hg : g = f
  · rw [if_pos hg] at h
    subst hg
    refine ⟨?_, fn_back hC hmx hF (hx vs H v H' h)⟩
    unfold chkF at hF
    split at hF
    · rename_i fn hf
      unfold chkB at hF
      split at hF
      · rename_i c hb
        simp only [Bool.and_eq_true, Bool.not_eq_true'] at hF
        exact ⟨fn, hf, hF.1.1, by rw [hb]; rfl⟩
      · cases hF
    · cases hF
  · rw [if_neg hg] at h
    exact hC g vs H v H' h
end
end Go.Vm
