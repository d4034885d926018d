/- What an operation of the abstract machine means for Go's own: operations that read values alone. -/
import Derived.Test.YtfamnghjibckbaaVm4
import Derived.Laws.Strings
namespace Go.Vm
set_option linter.unusedVariables false
set_option linter.unusedSimpArgs false

section types
variable {P : Program} {t : TypeId} {w : World}
theorem szT_info {n : Nat} (h : szT P t = some n) : ∃ i, P.info? t = some i ∧ i.size = n := by
  unfold szT at h
  cases hi : P.info? t with
  | none => rw [hi] at h; cases h
  | some i => rw [hi] at h; exact ⟨i, rfl, by simpa using h⟩
theorem run_sizeT {n : Nat} (h : szT P t = some n) : (sizeOf t).run P w = .ok n w := by
  obtain ⟨i, hi, hn⟩ := szT_info h
  simp [sizeOf, typeInfo, hi, hn]
theorem run_bytesT {n : Nat} (h : byT P t = some n) : (do pure (← typeInfo t).bytes : Sem Nat).run P w = .ok n w := by
  unfold byT at h
  cases hi : P.info? t with
  | none => rw [hi] at h; cases h
  | some i => rw [hi] at h; simp [typeInfo, hi]; simpa using h
theorem run_zeT {z : Value} (h : zeT P t = some z) : (zeroValue t).run P w = .ok z w := by
  unfold zeT at h
  cases hi : P.info? t with
  | none => rw [hi] at h; cases h
  | some i =>
    rw [hi] at h
    have h' : i.zero = some z := by simpa using h
    simp [zeroValue, typeInfo, hi, h']
theorem run_und {d : TypeDesc} (h : P.underlying t = some d) : (underlying t).run P w = .ok d w := by
  simp [underlying, h]
theorem nT_none (h : nT P t = some none) : ∃ d, P.underlying t = some d ∧ (∀ fs, d ≠ .struct fs) ∧ (∀ n e, d ≠ .array n e) := by
  unfold nT at h
  split at h
  · cases hs : szT P t <;> rw [hs] at h <;> cases h
  · cases hs : szT P t <;> rw [hs] at h <;> cases h
  · rename_i d h1 h2 h3
    exact ⟨d, h3, fun fs e => h1 fs e, fun n' e' e => h2 n' e' e⟩
  · cases h
theorem nT_some {n : Nat} (h : nT P t = some (some n)) : szT P t = some n ∧ ((∃ fs, P.underlying t = some (.struct fs)) ∨ ∃ m e, P.underlying t = some (.array m e)) := by
  unfold nT at h
  split at h
  · rename_i fs hu
    exact ⟨by cases hs : szT P t <;> rw [hs] at h <;> simp at h; rw [h], .inl ⟨fs, hu⟩⟩
  · rename_i m e hu
    exact ⟨by cases hs : szT P t <;> rw [hs] at h <;> simp at h; rw [h], .inr ⟨m, e, hu⟩⟩
  · cases h
  · cases h
theorem run_isAgg_none (h : nT P t = some none) : (isAgg t).run P w = .ok false w := by
  obtain ⟨d, hu, h1, h2⟩ := nT_none h
  simp only [isAgg, Sem.run_bind, run_und hu, Result.andThen_ok]
  cases d <;> first | rfl | exact absurd rfl (h1 _) | exact absurd rfl (h2 _ _)
theorem run_isAgg_some {n : Nat} (h : nT P t = some (some n)) : (isAgg t).run P w = .ok true w := by
  obtain ⟨-, ⟨fs, hu⟩ | ⟨m, e, hu⟩⟩ := nT_some h <;> simp only [isAgg, Sem.run_bind, run_und hu, Result.andThen_ok] <;> rfl
theorem elT_und {e : TypeId} (h : elT P t = some e) : P.underlying t = some (.slice e) := by
  unfold elT at h
  split at h
  · cases h; assumption
  · cases h
theorem arT_und {n : Nat} {e : TypeId} (h : arT P t = some (n, e)) : P.underlying t = some (.array n e) := by
  unfold arT at h
  split at h
  · cases h; assumption
  · cases h
theorem intT_und {k : IntKind} (h : intT P t k = true) : P.underlying t = some (.int k) := by
  unfold intT at h
  split at h
  · rename_i k' hu; rw [hu]; simp at h; rw [h]
  · cases h
theorem strT_und (h : strT P t = true) : P.underlying t = some .string := by
  unfold strT at h
  split at h
  · assumption
  · cases h
theorem boolT_und (h : boolT P t = true) : P.underlying t = some .bool := by
  unfold boolT at h
  split at h
  · assumption
  · cases h
theorem bytesT_und (h : bytesT P t = true) : ∃ e, P.underlying t = some (.slice e) ∧ P.underlying e = some (.int .u8) := by
  unfold bytesT at h
  split at h
  · rename_i e he; exact ⟨e, elT_und he, intT_und h⟩
  · cases h
theorem fldT_und {f : Nat} {g : Field} (h : fldT P t f = some g) : ∃ fs : Array Field, P.underlying t = some (.struct fs) ∧ fs[f]? = some g := by
  unfold fldT at h
  split at h
  · rename_i fs hu; exact ⟨fs, hu, h⟩
  · cases h
/-- A part of a value's cells. -/
theorem run_part {ρ : Rn} {n : Option Nat} {cs : List AV} {ys : Array Value} {off : Nat} (h : nT P t = some n) (hc : All2 (VA ρ) cs ys.toList) (hf : partFits cs off n) :
    ∃ v, (part t ys off).run P w = .ok v w ∧ V1 ρ (partOf cs off n) v := by
  cases n with
  | none =>
    have hlt : off < cs.length := hf
    obtain ⟨y, hy, hv⟩ := hc.get off cs[off] (by simp [hlt])
    refine ⟨y, ?_, ?_⟩
    · have hy' : ys[off]? = some y := by simpa using hy
      simp [part, run_isAgg_none h, hy']
    · have e : partOf cs off none = cs[off] := by simp [partOf, List.getD, List.getElem?_eq_getElem hlt]
      rw [e]; exact V1.of hv
  | some n =>
    refine ⟨.agg (ys.extract off (off + n)), ?_, ?_⟩
    · simp [part, run_isAgg_some h, run_sizeT (nT_some h).1]
    · refine ⟨_, rfl, ?_⟩
      have := (hc.drop off).take n
      simpa [List.take_drop, Nat.add_comm] using this
end types

section ops
variable {P : Program} {B : Base} {C : Tab} {ρ : Rn} {M : Mem} {w : World} {e : Env} {a : Act} {o : Oper}
/-- The operands of an operation stand for their values. -/
abbrev OE (P : Program) (ρ : Rn) (e : Env) (a : Act) (l : List Opd) : Prop := ∀ y z, y ∈ l → chkX P y z = true → VE ρ (evT e y) (a.eval z)

theorem sim_mv {d : Nat} {x : Opd} (hc : chkOp P (.mv d x) o.op = true) (hE : OE P ρ e a [x]) (hm : MemR B ρ M w) : Sim P o a w (Out B ρ M (evT e x)) := by
  simp only [chkOp] at hc
  split at hc
  · rename_i y ho; exact Sim.value (v := a.eval y) (by simp [execOp, ho]) (Out.same (hE _ _ (by simp) hc) hm)
  · rename_i y ho; exact Sim.value (v := a.eval y) (by simp [execOp, ho]) (Out.same (hE _ _ (by simp) hc) hm)
  · cases hc
theorem pick_rel {p : Bool} {x y : AV} {v u : Value} (hx : VE ρ x v) (hy : VE ρ y u) : VE ρ (pickV (.b p) x y) (if p = true then v else u) := by
  have : VE ρ (bif p then x else y) (if p = true then v else u) := by cases p <;> simpa
  cases x <;> cases y <;> first | exact this | skip
  cases p
  · exact hy
  · exact hx
theorem sim_pk {d : Nat} {c x y : Opd} (hc : chkOp P (.pk d c x y) o.op = true) (hk : (evT e c).isB = true) (hE : OE P ρ e a [c, x, y]) (hm : MemR B ρ M w) :
    Sim P o a w (Out B ρ M (pickV (evT e c) (evT e x) (evT e y))) := by
  simp only [chkOp] at hc
  split at hc
  · rename_i c' x' y' ho
    simp only [Bool.and_eq_true] at hc
    obtain ⟨p, h1, h2⟩ := (hE c c' (by simp) hc.1.1).bool hk
    rw [h1]
    refine Sim.value (v := if p = true then a.eval x' else a.eval y') ?_ (Out.same (pick_rel (hE x x' (by simp) hc.1.2) (hE y y' (by simp) hc.2)) hm)
    simp [execOp, ho, asBool, h2]
  · cases hc
theorem intV_run {op : BinOp} {k k' : IntKind} {x y : Int} {t : TypeId} (h : intC op k k' y) : ∃ v, (binOp op t (.int k x) (.int k' y)).run P w = .ok v w ∧ VP ρ (intV op k x y) v := by
  cases op <;> simp only [intC] at h
  case shl => exact ⟨_, by simp only [binOp, Op.shift, if_neg (show ¬ y < 0 by omega)]; rfl, rfl⟩
  case shr => exact ⟨_, by simp only [binOp, Op.shift, if_neg (show ¬ y < 0 by omega)]; rfl, rfl⟩
  case quo => obtain ⟨rfl, hy⟩ := h; exact ⟨_, by simp only [binOp, ne_eq, not_true, if_false, Op.intDiv, if_neg hy]; rfl, rfl⟩
  case rem => obtain ⟨rfl, hy⟩ := h; exact ⟨_, by simp only [binOp, ne_eq, not_true, if_false, Op.intDiv, if_neg hy]; rfl, rfl⟩
  all_goals (subst h; exact ⟨_, by simp only [binOp, ne_eq, not_true, if_false]; rfl, rfl⟩)
theorem ba_toList (l : List UInt8) : (⟨l.toArray⟩ : ByteArray).toList = l := by
  rw [ByteArray.toList_eq]
theorem ba_size (l : List UInt8) : (⟨l.toArray⟩ : ByteArray).size = l.length := by simp [ByteArray.size]
theorem ba_append (x y : List UInt8) : (⟨x.toArray⟩ ++ ⟨y.toArray⟩ : ByteArray) = ⟨(x ++ y).toArray⟩ := by
  apply ByteArray.ext
  apply Array.ext'
  simp [ByteArray.data_append]
theorem strV_run {op : BinOp} {x y : List UInt8} {t : TypeId} (h : strC op x y) : ∃ v, (binOp op t (.string ⟨x.toArray⟩) (.string ⟨y.toArray⟩)).run P w = .ok v w ∧ VP ρ (strV op x y) v := by
  have hb : (x == y) = decide (x = y) := by rw [Bool.eq_iff_iff]; simp
  cases op <;> simp only [strC] at h
  case add =>
    refine ⟨.string ⟨(x ++ y).toArray⟩, ?_, rfl⟩
    have : ¬ (((⟨x.toArray⟩ : ByteArray).size + (⟨y.toArray⟩ : ByteArray).size : Nat) : Int) > IntKind.i64.max := by
      rw [ba_size, ba_size]
      simp only [IntKind.max, IntKind.signed, IntKind.bits]
      simp; omega
    simp only [binOp, Op.stringOp, if_neg this, ba_append]
    rfl
  all_goals (refine ⟨_, by simp only [binOp, Op.stringOp]; rfl, ?_⟩; simp only [strV, VP, ba_toList, hb])
theorem eqGuard_skip {op : BinOp} {t : TypeId} {x y : Operand} {u v : Value} (h : (∃ k n, u = .int k n) ∨ (∃ s, u = .string s) ∨ (∃ b, u = .bool b) ∨ (∃ p, u = .pointer p) ∨ (∃ p l c, u = .slice p l c) ∨ (∃ p, u = .map p) ∨ u = .nilFunc ∨ (∃ f g c, u = .func f g c)) :
    (eqGuard op t x y u v).run P w = .ok () w := by
  unfold eqGuard
  rcases h with ⟨k, n, rfl⟩ | ⟨s, rfl⟩ | ⟨b, rfl⟩ | ⟨p, rfl⟩ | ⟨p, l, c, rfl⟩ | ⟨p, rfl⟩ | rfl | ⟨f, g, c, rfl⟩ <;> cases op <;> rfl
theorem sim_bn {d : Nat} {op : BinOp} {x y : Opd} (hc : chkOp P (.bn d op x y) o.op = true) (hk : binC op (evT e x) (evT e y)) (hE : OE P ρ e a [x, y]) (hm : MemR B ρ M w) :
    Sim P o a w (Out B ρ M (binV op (evT e x) (evT e y))) := by
  simp only [chkOp] at hc
  split at hc
  · rename_i op' t x' y' yt ho
    simp only [Bool.and_eq_true, beq_iff_eq] at hc
    obtain ⟨⟨rfl, h1⟩, h2⟩ := hc
    have hx := hE x x' (by simp) h1
    have hy := hE y y' (by simp) h2
    generalize evT e x = X at *
    generalize evT e y = Y at *
    cases X <;> cases Y <;> simp only [binC] at hk
    case i.i k p k' q =>
      have hx' : a.eval x' = .int k p := hx
      have hy' : a.eval y' = .int k' q := hy
      obtain ⟨v, hv, hr⟩ := intV_run (P := P) (ρ := ρ) (w := w) (x := p) (t := t) hk
      refine Sim.value (v := v) ?_ (Out.same (VE.of (V2.of (V1.of (VA.of hr)))) hm)
      simp [execOp, ho, hx', hy', eqGuard_skip, hv]
    case s.s p q =>
      have hx' : a.eval x' = .string ⟨p.toArray⟩ := hx
      have hy' : a.eval y' = .string ⟨q.toArray⟩ := hy
      obtain ⟨v, hv, hr⟩ := strV_run (P := P) (ρ := ρ) (w := w) (t := t) hk
      refine Sim.value (v := v) ?_ (Out.same (VE.of (V2.of (V1.of (VA.of hr)))) hm)
      simp [execOp, ho, hx', hy', eqGuard_skip, hv]
  · cases hc
theorem sim_un {d : Nat} {op : UnOp} {x : Opd} (hc : chkOp P (.un d op x) o.op = true) (hk : unC op (evT e x)) (hE : OE P ρ e a [x]) (hm : MemR B ρ M w) :
    Sim P o a w (Out B ρ M (unV op (evT e x))) := by
  simp only [chkOp] at hc
  split at hc
  · rename_i op' t x' ho
    simp only [Bool.and_eq_true, beq_iff_eq] at hc
    obtain ⟨rfl, h1⟩ := hc
    have hx := hE x x' (by simp) h1
    generalize evT e x = X at *
    cases X <;> simp only [unC] at hk
    case i k p =>
      have hx' : a.eval x' = .int k p := hx
      rcases hk with rfl | rfl
      · exact Sim.value (v := .int k (k.wrap (0 - p))) (by simp [execOp, ho, hx', Op.unary, Op.intArith]) (Out.same (VE.of (V2.of (V1.of (VA.of rfl)))) hm)
      · refine Sim.value (v := .int k (bitw .xor k (if k.signed then -1 else k.max) p)) ?_ (Out.same (VE.of (V2.of (V1.of (VA.of rfl)))) hm)
        simp only [execOp, ho, hx', Op.unary, Op.intBits]; rfl
    case b p =>
      have hx' : a.eval x' = .bool p := hx
      subst hk
      exact Sim.value (v := .bool (!p)) (by simp [execOp, ho, hx', Op.unary]) (Out.same (VE.of (V2.of (V1.of (VA.of rfl)))) hm)
  · cases hc
theorem sim_be {d : Nat} {neg : Bool} {x y : Opd} (hc : chkOp P (.be d neg x y) o.op = true) (hk : (evT e x).isB = true ∧ (evT e y).isB = true) (hE : OE P ρ e a [x, y]) (hm : MemR B ρ M w) :
    Sim P o a w (Out B ρ M (boolV neg (evT e x) (evT e y))) := by
  simp only [chkOp] at hc
  split at hc
  · rename_i op' t x' y' yt ho
    simp only [Bool.and_eq_true, beq_iff_eq] at hc
    obtain ⟨⟨⟨ho', hb⟩, h1⟩, h2⟩ := hc
    obtain ⟨p, hp1, hp2⟩ := (hE x x' (by simp) h1).bool hk.1
    obtain ⟨q, hq1, hq2⟩ := (hE y y' (by simp) h2).bool hk.2
    have hu := boolT_und hb
    have he : (Op.equal t (.bool p) (.bool q)).run P w = .ok (p == q) w := by
      show (Op.equalIn (9999 + 1) t _ _).run P w = _
      rw [Op.equalIn]
      simp [run_und hu]
    refine Sim.value (v := .bool ((p == q) != neg)) ?_ (Out.same (by rw [hp1, hq1]; exact VE.of (V2.of (V1.of (VA.of rfl)))) hm)
    cases neg
    · have ho'' : op' = .eql := by simpa using ho'
      subst ho''
      simp [execOp, ho, hp2, hq2, eqGuard_skip, binOp, he]
    · have ho'' : op' = .neq := by simpa using ho'
      subst ho''
      simp [execOp, ho, hp2, hq2, eqGuard_skip, binOp, he]
  · cases hc
theorem sim_nl {d k : Nat} {neg : Bool} {x : Opd} (hc : chkOp P (.nl d k neg x) o.op = true) (hk : (nilK k (evT e x)).isSome = true) (hE : OE P ρ e a [x]) (hm : MemR B ρ M w) :
    Sim P o a w (Out B ρ M (.b (((nilK k (evT e x)).getD false) != neg))) := by
  simp only [chkOp] at hc
  split at hc
  · rename_i op' t x' c yt ho
    simp only [Bool.and_eq_true, beq_iff_eq] at hc
    obtain ⟨⟨ho', h1⟩, h2⟩ := hc
    have hx := hE x x' (by simp) h1
    suffices h : ∃ r : Bool, nilK k (evT e x) = some r ∧ (Op.equal t (a.eval x') c).run P w = .ok r w ∧ (eqGuard op' t x' (.const c) (a.eval x') c).run P w = .ok () w ∧
        (∀ op : BinOp, (op = .eql → binOp op t (a.eval x') c = do pure (.bool (← Op.equal t (a.eval x') c))) ∧ (op = .neq → binOp op t (a.eval x') c = do pure (.bool (!(← Op.equal t (a.eval x') c))))) by
      obtain ⟨r, hr, he, hg, hb⟩ := h
      rw [hr]
      refine Sim.value (v := .bool (r != neg)) ?_ (Out.same (VE.of (V2.of (V1.of (VA.of rfl)))) hm)
      have hcc : a.eval (.const c) = c := rfl
      cases neg
      · have ho'' : op' = .eql := by simpa using ho'
        subst ho''
        simp [execOp, ho, hcc, hg, (hb .eql).1 rfl, he]
      · have ho'' : op' = .neq := by simpa using ho'
        subst ho''
        simp [execOp, ho, hcc, hg, (hb .neq).2 rfl, he]
    have heq : ∀ u v, Op.equal t u v = Op.equalIn (9999 + 1) t u v := fun _ _ => rfl
    generalize evT e x = X at *
    split at h2
    · rename_i el hu
      cases X <;> simp [nilK] at hk
      · have hx' : a.eval x' = .slice none 0 0 := hx
        rw [hx']
        exact ⟨true, rfl, by rw [heq, Op.equalIn]; simp [run_und hu], eqGuard_skip (by simp), fun op => ⟨fun h => by subst h; rfl, fun h => by subst h; rfl⟩⟩
      · obtain ⟨p, -, -, -, off, cap, -, -, -, hx'⟩ := (hx : VP ρ (.sl ..) _)
        rw [hx']
        exact ⟨false, rfl, by rw [heq, Op.equalIn]; simp [run_und hu], eqGuard_skip (by simp), fun op => ⟨fun h => by subst h; rfl, fun h => by subst h; rfl⟩⟩
    · rename_i k1 k2 hu
      cases X <;> simp [nilK] at hk
      · have hx' : a.eval x' = .map none := hx
        rw [hx']
        exact ⟨true, rfl, by rw [heq, Op.equalIn]; simp [run_und hu], eqGuard_skip (by simp), fun op => ⟨fun h => by subst h; rfl, fun h => by subst h; rfl⟩⟩
      · obtain ⟨b, -, hx'⟩ := (hx : VP ρ (.mp _) _)
        rw [hx']
        exact ⟨false, rfl, by rw [heq, Op.equalIn]; simp [run_und hu], eqGuard_skip (by simp), fun op => ⟨fun h => by subst h; rfl, fun h => by subst h; rfl⟩⟩
    · rename_i el hu
      have key : ∀ ad : Addr, a.eval x' = .pointer (some ad) → ∃ r : Bool, some false = some r ∧ (Op.equal t (a.eval x') (.pointer none)).run P w = .ok r w ∧ (eqGuard op' t x' (.const (.pointer none)) (a.eval x') (.pointer none)).run P w = .ok () w ∧
          (∀ op : BinOp, (op = .eql → binOp op t (a.eval x') (.pointer none) = do pure (.bool (← Op.equal t (a.eval x') (.pointer none)))) ∧ (op = .neq → binOp op t (a.eval x') (.pointer none) = do pure (.bool (!(← Op.equal t (a.eval x') (.pointer none)))))) := by
        intro ad hx'
        rw [hx']
        exact ⟨false, rfl, by rw [heq, Op.equalIn]; simp [run_und hu], eqGuard_skip (by simp), fun op => ⟨fun h => by subst h; rfl, fun h => by subst h; rfl⟩⟩
      cases X <;> simp [nilK] at hk
      · have hx' : a.eval x' = .pointer none := hx
        rw [hx']
        exact ⟨true, rfl, by rw [heq, Op.equalIn]; simp [run_und hu], eqGuard_skip (by simp), fun op => ⟨fun h => by subst h; rfl, fun h => by subst h; rfl⟩⟩
      · obtain ⟨p, -, -, hx'⟩ := (hx : VP ρ (.pv ..) _)
        exact key _ hx'
      · obtain ⟨p, -, -, -, -, hx'⟩ := (hx : VP ρ (.pe ..) _)
        exact key _ hx'
      · obtain ⟨b, z, -, hx'⟩ := hx
        exact key _ hx'
    · rename_i ps rs v hu
      cases X <;> simp [nilK] at hk
      · have hx' : a.eval x' = .nilFunc := hx
        rw [hx']
        exact ⟨true, rfl, by rw [heq, Op.equalIn]; simp [run_und hu], eqGuard_skip (by simp), fun op => ⟨fun h => by subst h; rfl, fun h => by subst h; rfl⟩⟩
      · obtain ⟨rc, hx', -⟩ := (hx : VA ρ (.fn ..) _)
        rw [hx']
        exact ⟨false, rfl, by rw [heq, Op.equalIn]; simp [run_und hu], eqGuard_skip (by simp), fun op => ⟨fun h => by subst h; rfl, fun h => by subst h; rfl⟩⟩
    · cases h2
  · cases hc
theorem sim_ci {d : Nat} {k : IntKind} {x : Opd} (hc : chkOp P (.ci d k x) o.op = true) (hk : (evT e x).isI = true) (hE : OE P ρ e a [x]) (hm : MemR B ρ M w) :
    Sim P o a w (Out B ρ M (.i k (k.wrap (evT e x).toI))) := by
  simp only [chkOp] at hc
  split at hc
  · rename_i s t x' ho
    simp only [Bool.and_eq_true] at hc
    obtain ⟨⟨h1, h2⟩, h3⟩ := hc
    have hx := ((hE x x' (by simp) h1).int hk).2
    obtain ⟨ds, hs⟩ := Option.isSome_iff_exists.1 h3
    refine Sim.value (v := .int k (k.wrap (evT e x).toI)) ?_ (Out.same (VE.of (V2.of (V1.of (VA.of rfl)))) hm)
    simp only [execOp, ho, hx, Sem.run_bind, convert, run_und (intT_und h2), run_und hs, Result.andThen_ok]
    cases ds <;> rfl
  · cases hc
theorem sim_ex {d i : Nat} {x : Opd} (hc : chkOp P (.ex d x i) o.op = true) (hk : ∃ xs, evT e x = .tp xs ∧ i < xs.length) (hE : OE P ρ e a [x]) (hm : MemR B ρ M w) :
    Sim P o a w (Out B ρ M (match evT e x with | .tp xs => xs.getD i .u | _ => .u)) := by
  simp only [chkOp] at hc
  split at hc
  · rename_i x' j ho
    simp only [Bool.and_eq_true, beq_iff_eq] at hc
    obtain ⟨h1, rfl⟩ := hc
    obtain ⟨xs, hxs, hi⟩ := hk
    have hx := hE x x' (by simp) h1
    rw [hxs] at hx ⊢
    obtain ⟨ys, hy, hr⟩ := hx.tp
    obtain ⟨y, hy1, hy2⟩ := hr.get i xs[i] (by simp [hi])
    have hy1' : ys[i]? = some y := by simpa using hy1
    refine Sim.value (v := y) (by simp [execOp, ho, hy, Instr.extract, hy1']) (Out.same ?_ hm)
    simp only [List.getD, List.getElem?_eq_getElem hi, Option.getD_some]
    exact VE.of (V2.of hy2)
  · cases hc
theorem sim_fd {d off : Nat} {n : Option Nat} {x : Opd} (hc : chkOp P (.fd d x off n) o.op = true) (hk : ∃ cs, evT e x = .ag cs ∧ partFits cs off n) (hE : OE P ρ e a [x]) (hm : MemR B ρ M w) :
    Sim P o a w (Out B ρ M (partOf (evT e x).cells off n)) := by
  simp only [chkOp] at hc
  split at hc
  · rename_i t x' f ho
    simp only [Bool.and_eq_true] at hc
    obtain ⟨h1, h2⟩ := hc
    obtain ⟨cs, hcs, hf⟩ := hk
    have hx := hE x x' (by simp) h1
    rw [hcs] at hx ⊢
    obtain ⟨ys, hy, hr⟩ := hx.ag
    split at h2
    · rename_i g hg
      simp only [Bool.and_eq_true, beq_iff_eq] at h2
      obtain ⟨rfl, hn⟩ := h2
      obtain ⟨fs, hu, hfs⟩ := fldT_und hg
      obtain ⟨v, hv1, hv2⟩ := run_part (w := w) hn hr hf
      exact Sim.value (v := v) (by simp [execOp, ho, hy, Instr.field, run_und hu, hfs, asAgg, hv1]) (Out.same (VE.of (V2.of hv2)) hm)
    · cases h2
  · cases hc
theorem sim_ix {d : Nat} {x i : Opd} (hc : chkOp P (.ix d x i) o.op = true) (hk : (evT e x).isS = true ∧ (evT e i).isI = true ∧ 0 ≤ (evT e i).toI ∧ (evT e i).toI < (evT e x).toS.length) (hE : OE P ρ e a [x, i]) (hm : MemR B ρ M w) :
    Sim P o a w (Out B ρ M (.i .u8 ((evT e x).toS.getD (evT e i).toI.toNat 0).toNat)) := by
  simp only [chkOp] at hc
  split at hc
  · rename_i t x' i' ho
    simp only [Bool.and_eq_true] at hc
    obtain ⟨⟨h1, h2⟩, h3⟩ := hc
    obtain ⟨k1, k2, k3, k4⟩ := hk
    have hx := ((hE x x' (by simp) h1).str k1).2
    have hi := ((hE i i' (by simp) h2).int k2).2
    have hlt : (evT e i).toI.toNat < (evT e x).toS.length := by omega
    refine Sim.value (v := .int .u8 ((evT e x).toS.getD (evT e i).toI.toNat 0).toNat) ?_ (Out.same (VE.of (V2.of (V1.of (VA.of rfl)))) hm)
    have hg : (⟨(evT e x).toS.toArray⟩ : ByteArray)[(evT e i).toI.toNat]? = some ((evT e x).toS.getD (evT e i).toI.toNat 0) := by
      have hs : (evT e i).toI.toNat < (⟨(evT e x).toS.toArray⟩ : ByteArray).size := by rw [ba_size]; exact hlt
      have h0 : (⟨(evT e x).toS.toArray⟩ : ByteArray)[(evT e i).toI.toNat]? = some ((⟨(evT e x).toS.toArray⟩ : ByteArray)[(evT e i).toI.toNat]'hs) := getElem?_pos (⟨(evT e x).toS.toArray⟩ : ByteArray) (evT e i).toI.toNat hs
      rw [h0]
      simp only [List.getD, List.getElem?_eq_getElem hlt, Option.getD_some]
      congr 1
    simp [execOp, ho, hx, hi, Instr.index, asIntOf, run_und (strT_und h3), k3, hg]
  · cases hc
theorem sim_ixa {d len z : Nat} {n : Option Nat} {x i : Opd} (hc : chkOp P (.ixa d x i len z n) o.op = true) (hk : (∃ cs, evT e x = .ag cs ∧ partFits cs ((evT e i).toI.toNat * z) n) ∧ (evT e i).isI = true ∧ 0 ≤ (evT e i).toI ∧ (evT e i).toI < len) (hE : OE P ρ e a [x, i]) (hm : MemR B ρ M w) :
    Sim P o a w (Out B ρ M (partOf (evT e x).cells ((evT e i).toI.toNat * z) n)) := by
  simp only [chkOp] at hc
  split at hc
  · rename_i t x' i' ho
    simp only [Bool.and_eq_true] at hc
    obtain ⟨⟨h1, h2⟩, h3⟩ := hc
    obtain ⟨⟨cs, hcs, hf⟩, k2, k3, k4⟩ := hk
    have hx := hE x x' (by simp) h1
    have hi := ((hE i i' (by simp) h2).int k2).2
    rw [hcs] at hx ⊢
    obtain ⟨ys, hy, hr⟩ := hx.ag
    split at h3
    · rename_i l el hg
      simp only [Bool.and_eq_true, beq_iff_eq] at h3
      obtain ⟨⟨rfl, hz⟩, hn⟩ := h3
      obtain ⟨v, hv1, hv2⟩ := run_part (w := w) hn hr hf
      refine Sim.value (v := v) ?_ (Out.same (VE.of (V2.of hv2)) hm)
      simp [execOp, ho, hy, hi, Instr.index, asIntOf, run_und (arT_und hg), k3, k4, run_sizeT hz, hv1]
    · cases h3
  · cases hc
theorem chkOX_some {x : Opd} {y : Option Operand} (h : chkOX P (some x) y = true) : ∃ z, y = some z ∧ chkX P x z = true := by
  cases y with
  | none => simp [chkOX] at h
  | some z => exact ⟨z, rfl, by simpa [chkOX] using h⟩
theorem chkOX_none {y : Option Operand} (h : chkOX P none y = true) : y = none := by
  cases y with
  | none => rfl
  | some z => simp [chkOX] at h
theorem run_bound {v : Value} {k : IntKind} {n : Int} {y : Nat} {code : BoundsCode} (hv : v = .int k n) (h0 : 0 ≤ n) (h1 : n ≤ y) : (Instr.sliceBound v y code).run P w = .ok n.toNat w := by
  subst hv
  simp only [Instr.sliceBound, asIntOf, Sem.run_bind, Sem.run_pure, Result.andThen_ok]
  rw [if_pos ⟨h0, h1⟩]
  rfl
/-- A slice expression's bounds. -/
theorem run_bounds {isSlice : Bool} {len cap : Nat} {lo hi : Option Opd} {lo' hi' : Option Operand} {dl dh : AV} (hcap : len ≤ cap) (hl : chkOX P lo lo' = true) (hh : chkOX P hi hi' = true)
    (hE : OE P ρ e a (lo.toList ++ hi.toList)) (hdl : dl = .i .i64 0) (hdh : dh.toI = len)
    (hi1 : (evO e lo dl).isI = true) (hi2 : (evO e hi dh).isI = true) (h0 : 0 ≤ (evO e lo dl).toI) (h1 : (evO e lo dl).toI ≤ (evO e hi dh).toI) (h2 : (evO e hi dh).toI ≤ len) :
    (Instr.sliceBounds isSlice len cap (lo'.map a.eval) (hi'.map a.eval) none).run P w = .ok ((evO e lo dl).toI.toNat, (evO e hi dh).toI.toNat, cap) w := by
  unfold Instr.sliceBounds
  cases lo with
  | none =>
    rw [chkOX_none hl]
    subst hdl
    cases hi with
    | none =>
      rw [chkOX_none hh]
      have h00 : (AV.i .i64 0).toI = 0 := rfl
      simp [evO, hdh, h00]
    | some y =>
      obtain ⟨z, rfl, hz⟩ := chkOX_some hh
      have hv := ((hE y z (by simp) hz).int hi2).2
      have hy0 : 0 ≤ (evT e y).toI := Int.le_trans h0 h1
      have hy1 : (evT e y).toI ≤ (cap : Int) := Int.le_trans h2 (by omega)
      simp [evO, AV.toI, run_bound (w := w) (P := P) hv hy0 hy1]
  | some x =>
    obtain ⟨zx, rfl, hzx⟩ := chkOX_some hl
    have hvx := ((hE x zx (by simp) hzx).int hi1).2
    have hx0 : 0 ≤ (evT e x).toI := h0
    cases hi with
    | none =>
      rw [chkOX_none hh]
      have hx1 : (evT e x).toI ≤ (len : Int) := Int.le_trans h1 h2
      simp [evO, hdh, run_bound (w := w) (P := P) hvx hx0 hx1]
    | some y =>
      obtain ⟨z, rfl, hz⟩ := chkOX_some hh
      have hv := ((hE y z (by simp) hz).int hi2).2
      have hy0 : 0 ≤ (evT e y).toI := Int.le_trans h0 h1
      have hy1 : (evT e y).toI ≤ (cap : Int) := Int.le_trans h2 (by omega)
      have hx1 : (evT e x).toI ≤ ((evT e y).toI.toNat : Int) := by
        have : (evT e x).toI ≤ (evT e y).toI := h1
        omega
      simp [evO, run_bound (w := w) (P := P) hv hy0 hy1, run_bound (w := w) (P := P) hvx hx0 hx1]
theorem sim_ss {d : Nat} {x : Opd} {lo hi : Option Opd} (hc : chkOp P (.ss d x lo hi) o.op = true) (hk : okO C e M (.ss d x lo hi)) (hE : OE P ρ e a (x :: (lo.toList ++ hi.toList))) (hm : MemR B ρ M w) :
    Sim P o a w (Out B ρ M (vlO C e M (.ss d x lo hi))) := by
  simp only [chkOp] at hc
  split at hc
  · rename_i t x' lo' hi' ho
    simp only [Bool.and_eq_true] at hc
    obtain ⟨⟨⟨h1, h2⟩, h3⟩, h4⟩ := hc
    simp only [okO] at hk
    obtain ⟨k1, ⟨k2, k3⟩, k4, k5, k6⟩ := hk
    have hx := ((hE x x' (by simp) h1).str k1).2
    have hb := run_bounds (w := w) (P := P) (ρ := ρ) (a := a) (e := e) (isSlice := false) (len := (evT e x).toS.length) (cap := (evT e x).toS.length) (dh := .i .i64 (evT e x).toS.length) (Nat.le_refl _) h2 h3 (fun y z hy => hE y z (by simp at hy ⊢; exact .inr hy)) rfl rfl k2 k3 k4 k5 k6
    refine Sim.value ?_ (Out.same (v := .string ⟨(((evT e x).toS.drop (evO e lo (.i .i64 0)).toI.toNat).take ((evO e hi (.i .i64 (evT e x).toS.length)).toI.toNat - (evO e lo (.i .i64 0)).toI.toNat)).toArray⟩) (VE.of (V2.of (V1.of (VA.of rfl)))) hm)
    simp only [execOp, ho, hx, Sem.run_bind, Instr.sliceAt, run_und (strT_und h4), Result.andThen_ok, Instr.slice, Option.map_none, ba_size, hb]
    simp only [Option.isSome_none, Bool.false_eq_true, if_false, Sem.run_pure, Sem.run_bind, Result.andThen_ok, pure_bind, hb]
    congr 4
    apply ByteArray.ext
    apply Array.ext'
    simp [ByteArray.data_extract, List.take_drop, List.extract_eq_take_drop]
  · cases hc
theorem sim_ln {d : Nat} {x : Opd} (hc : chkOp P (.ln d x) o.op = true) (hk : lenC (evT e x)) (hE : OE P ρ e a [x]) (hm : MemR B ρ M w) :
    Sim P o a w (Out B ρ M (lenV (evT e x))) := by
  simp only [chkOp] at hc
  split at hc
  · rename_i c ho
    split at hc
    · rename_i x' t hcal hargs htys
      simp only [Bool.and_eq_true] at hc
      obtain ⟨h1, h2⟩ := hc
      obtain ⟨el, hel⟩ := Option.isSome_iff_exists.1 h2
      have hu := elT_und hel
      have hx := hE x x' (by simp) h1
      have ha1 : c.args = #[x'] := by have := congrArg List.toArray hargs; simpa using this
      have ha2 : c.argTypes = #[t] := by have := congrArg List.toArray htys; simpa using this
      suffices h : ∃ n : Nat, lenV (evT e x) = .i .i64 n ∧ ∃ b cap, a.eval x' = .slice b n cap by
        obtain ⟨n, hn, b, cap, hv⟩ := h
        rw [hn]
        refine Sim.value (v := .int .i64 n) ?_ (Out.same (VE.of (V2.of (V1.of (VA.of rfl)))) hm)
        simp [execOp, ho, resolve, hcal, ha1, ha2, invoke, builtin, Builtin.len_, run_und hu, hv, goInt]
      generalize evT e x = X at *
      cases X <;> simp only [lenC] at hk
      case ns => exact ⟨0, rfl, _, _, hx⟩
      case sl id ix len => obtain ⟨p, -, -, -, off, cap, -, -, -, hx'⟩ := (hx : VP ρ (.sl ..) _); exact ⟨len, rfl, _, _, hx'⟩
      case ll t g z len => obtain ⟨b, -, hx'⟩ := hx; exact ⟨len, rfl, _, _, hx'⟩
    · cases hc
  · cases hc
theorem sim_lns {d : Nat} {x : Opd} (hc : chkOp P (.lns d x) o.op = true) (hk : (evT e x).isS = true) (hE : OE P ρ e a [x]) (hm : MemR B ρ M w) :
    Sim P o a w (Out B ρ M (.i .i64 (evT e x).toS.length)) := by
  simp only [chkOp] at hc
  split at hc
  · rename_i c ho
    split at hc
    · rename_i x' t hcal hargs htys
      simp only [Bool.and_eq_true] at hc
      obtain ⟨h1, h2⟩ := hc
      have hx := ((hE x x' (by simp) h1).str hk).2
      have ha1 : c.args = #[x'] := by have := congrArg List.toArray hargs; simpa using this
      have ha2 : c.argTypes = #[t] := by have := congrArg List.toArray htys; simpa using this
      refine Sim.value (v := .int .i64 (evT e x).toS.length) ?_ (Out.same (VE.of (V2.of (V1.of (VA.of rfl)))) hm)
      simp [execOp, ho, resolve, hcal, ha1, ha2, invoke, builtin, Builtin.len_, run_und (strT_und h2), hx, goInt, ba_size]
    · cases hc
  · cases hc
theorem add_eq (b off n : Nat) : (⟨b, off, none⟩ : Addr).add n = ⟨b, off + n, none⟩ := by
  unfold Addr.add; split <;> simp_all
theorem sim_fa {d off : Nat} {x : Opd} (hc : chkOp P (.fa d x off) o.op = true) (hk : faC (evT e x)) (hE : OE P ρ e a [x]) (hm : MemR B ρ M w) :
    Sim P o a w (Out B ρ M (faV off (evT e x))) := by
  simp only [chkOp] at hc
  split at hc
  · rename_i t x' f ho
    simp only [Bool.and_eq_true] at hc
    obtain ⟨h1, h2⟩ := hc
    have hx := hE x x' (by simp) h1
    split at h2
    · rename_i g hg
      simp only [Bool.and_eq_true, beq_iff_eq, bne_iff_ne] at h2
      obtain ⟨⟨rfl, hn0⟩, hn⟩ := h2
      obtain ⟨fs, hu, hfs⟩ := fldT_und hg
      obtain ⟨n, hn'⟩ := Option.isSome_iff_exists.1 hn
      have hn1 : n ≠ 0 := fun e => hn0 (by rw [hn', e])
      have key : ∀ b off', a.eval x' = .pointer (some ⟨b, off', none⟩) → (execOp a.eval o).run P w = .ok (.value (.pointer (some ⟨b, off' + g.offset, none⟩))) w := by
        intro b off' hx'
        simp [execOp, ho, hx', Instr.fieldAt, run_und hu, hfs, Instr.sureAddr, fieldPlace, run_sizeT hn', hn1, add_eq]
      generalize evT e x = X at *
      cases X <;> simp only [faC] at hk
      case pv id off =>
        obtain ⟨p, q1, q2, hx'⟩ := (hx : VP ρ (.pv ..) _)
        exact Sim.value (key _ _ hx') (Out.same (VE.of (V2.of (V1.of (VA.of (show VP ρ (.pv id (off + g.offset)) _ from ⟨p, q1, q2, by rw [Nat.add_assoc]⟩))))) hm)
      case pe id ix off ext =>
        obtain ⟨p, q1, q2, q3, q4, hx'⟩ := (hx : VP ρ (.pe ..) _)
        exact Sim.value (key _ _ hx') (Out.same (VE.of (V2.of (V1.of (VA.of (show VP ρ (.pe id ix (off + g.offset) ext) _ from ⟨p, q1, q2, q3, q4, by rw [Nat.add_assoc]⟩))))) hm)
      case la t g' ix off =>
        obtain ⟨b, z, q1, hx'⟩ := hx
        exact Sim.value (key _ _ hx') (Out.same (show VE ρ (.la t g' ix (off + g.offset)) _ from ⟨b, z, q1, by rw [Nat.add_assoc]⟩) hm)
    · cases h2
  · cases hc
theorem sim_ia {d z : Nat} {x i : Opd} (hc : chkOp P (.ia d x i z) o.op = true) (hk : (evT e i).isI = true ∧ slZ M.h z (evT e x) ∧ iaC (evT e i).toI (evT e x)) (hE : OE P ρ e a [x, i]) (hm : MemR B ρ M w) :
    Sim P o a w (Out B ρ M (iaV (evT e i).toI.toNat (evT e x))) := by
  simp only [chkOp] at hc
  split at hc
  · rename_i t x' i' ho
    simp only [Bool.and_eq_true] at hc
    obtain ⟨⟨h1, h2⟩, h3⟩ := hc
    obtain ⟨k1, k2, k3⟩ := hk
    have hx := hE x x' (by simp) h1
    have hi := ((hE i i' (by simp) h2).int k1).2
    split at h3
    · rename_i el hel
      have hz : szT P el = some z := by simpa using h3
      have hu := elT_und hel
      have key : ∀ b off len cap, a.eval x' = .slice (some ⟨b, off, none⟩) len cap → 0 ≤ (evT e i).toI → (evT e i).toI < len →
          (execOp a.eval o).run P w = .ok (.value (.pointer (some ⟨b, off + (evT e i).toI.toNat * z, none⟩))) w := by
        intro b off len cap hx' h0 hl
        simp [execOp, ho, hx', hi, Instr.indexAt, asIntOf, run_und hu, h0, hl, run_sizeT hz, add_eq]
      generalize evT e x = X at *
      cases X <;> simp only [iaC] at k3
      case sl id ix len =>
        obtain ⟨p, q1, q2, q3, off, cap, q4, q5, q6, hx'⟩ := (hx : VP ρ (.sl ..) _)
        have hlen : 0 < len := by omega
        have hoff : off = p.o + (ix - p.s) * p.z := by rcases q5 with q5 | ⟨q5, -⟩ <;> omega
        have hid : id < M.h.n := by
          rcases Nat.lt_or_ge id M.h.n with h | h
          · exact h
          · have := (hm.heap.fr id h).1; rw [this] at q1; cases q1
        have hpz : p.z = z := by
          simp only [slZ] at k2
          have hr := hm.heap.rep id hid
          split at k2
          · rename_i rw st z' xs hob
            rw [hob] at hr
            obtain ⟨-, p0, rest, hA⟩ := hr
            rw [hA.hpl] at q1
            rcases List.mem_cons.1 q1 with rfl | q1
            · exact hA.hz.trans k2
            · exact ((hA.hrest p q1).1).trans k2
          · exact k2.elim
        refine Sim.value (key _ _ _ _ hx' k3.1 k3.2) (Out.same (VE.of (V2.of (V1.of (VA.of (show VP ρ (.pe id (ix + (evT e i).toI.toNat) 0 (ix + len)) _ from ⟨p, q1, by omega, by omega, q3, ?_⟩))))) hm)
        rw [hoff, hpz, show ix + (evT e i).toI.toNat - p.s = (ix - p.s) + (evT e i).toI.toNat by omega, Nat.add_mul]
        simp only [Nat.add_zero, Nat.add_assoc]
      case ll t g z' len =>
        obtain ⟨b, q1, hx'⟩ := hx
        have hz' : z' = z := k2
        refine Sim.value (key _ _ _ _ hx' k3.1 k3.2) (Out.same (show VE ρ (.la t g (evT e i).toI.toNat 0) _ from ⟨b, z', q1, by rw [hz']; simp⟩) hm)
    · cases h3
  · cases hc
theorem sim_iaa {d len z : Nat} {x i : Opd} (hc : chkOp P (.iaa d x i len z) o.op = true) (hk : faC (evT e x) ∧ (evT e i).isI = true ∧ 0 ≤ (evT e i).toI ∧ (evT e i).toI < len) (hE : OE P ρ e a [x, i]) (hm : MemR B ρ M w) :
    Sim P o a w (Out B ρ M (faV ((evT e i).toI.toNat * z) (evT e x))) := by
  simp only [chkOp] at hc
  split at hc
  · rename_i t x' i' ho
    simp only [Bool.and_eq_true] at hc
    obtain ⟨⟨h1, h2⟩, h3⟩ := hc
    obtain ⟨k1, k2, k3, k4⟩ := hk
    have hx := hE x x' (by simp) h1
    have hi := ((hE i i' (by simp) h2).int k2).2
    split at h3
    · rename_i l el hel
      simp only [Bool.and_eq_true, beq_iff_eq] at h3
      obtain ⟨rfl, hz⟩ := h3
      have hu := arT_und hel
      have key : ∀ b off, a.eval x' = .pointer (some ⟨b, off, none⟩) →
          (execOp a.eval o).run P w = .ok (.value (.pointer (some ⟨b, off + (evT e i).toI.toNat * z, none⟩))) w := by
        intro b off hx'
        simp [execOp, ho, hx', hi, Instr.indexAt, asIntOf, run_und hu, Instr.sureAddr, k3, k4, run_sizeT hz, add_eq]
      generalize evT e x = X at *
      cases X <;> simp only [faC] at k1
      case pv id off =>
        obtain ⟨p, q1, q2, hx'⟩ := (hx : VP ρ (.pv ..) _)
        exact Sim.value (key _ _ hx') (Out.same (VE.of (V2.of (V1.of (VA.of (show VP ρ (.pv id (off + _)) _ from ⟨p, q1, q2, by rw [Nat.add_assoc]⟩))))) hm)
      case pe id ix off ext =>
        obtain ⟨p, q1, q2, q3, q4, hx'⟩ := (hx : VP ρ (.pe ..) _)
        exact Sim.value (key _ _ hx') (Out.same (VE.of (V2.of (V1.of (VA.of (show VP ρ (.pe id ix (off + _) ext) _ from ⟨p, q1, q2, q3, q4, by rw [Nat.add_assoc]⟩))))) hm)
      case la t g' ix off =>
        obtain ⟨b, z, q1, hx'⟩ := hx
        exact Sim.value (key _ _ hx') (Out.same (show VE ρ (.la t g' ix (off + _)) _ from ⟨b, z, q1, by rw [Nat.add_assoc]⟩) hm)
    · cases h3
  · cases hc
end ops
end Go.Vm
